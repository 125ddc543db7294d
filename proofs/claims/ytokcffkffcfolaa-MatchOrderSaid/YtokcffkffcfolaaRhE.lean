/-
  The document's reader: pieces, by the contract of atom.
-/
import Derived.Test.YtokcffkffcfolaaRhD
import Derived.Test.YtokcffkffcfolaaRhM
namespace Go.Proofs.Ytokcffkffcfolaa.Rh
open Go Go.RowKit Go.Proofs.Ytokcffkffcfolaa.Rg

/-- A node with kids in the making: its cells, the kids' row. -/
structure Mk (W : World) (g : Nat) (W1 : World) (k : Int) (v : Value) (n : Nat) (cs : List Value) : Prop where
  b2 : W1.heap[W.heap.size]? = some (.cells (ncl 0 nilS none256).toArray 38 (0, 0))
  b3 : W1.heap[W.heap.size + 1]? = some (.cells (ncl k v none256).toArray 38 (0, 0))
  own : W1.ownsRow (W.heap.size + 2) 38 258 v n cs
  only : Only g W W1
  zero : n = 0 → v = nilS
section
variable {W W1 W2 : World} {g : Nat} {k : Int} {v : Value} {n : Nat} {cs : List Value}
theorem own_ge {base : Nat} {e : TypeId} {size : Nat} (h : W1.ownsRow base e size v n cs) {b : Nat} (hb : v.ownBlock = some b) : base ≤ b ∧ b < W1.heap.size := by
  rcases h.2 with ⟨rfl, _⟩ | ⟨g', cap, cur, rfl, hbb, hg, _⟩
  · simp [Value.ownBlock] at hb
  · simp [Value.ownBlock] at hb
    subst hb
    exact ⟨hbb, blk_lt hg⟩
theorem Mk.call (h : Mk W g W1 k v n cs) (hg : g < W.heap.size) (ho : Only g W1 W2) : Mk W g W2 k v n cs :=
  ⟨ho.blk h.b2 (by omega), ho.blk h.b3 (by omega), ho.own h.own (fun e => by have := own_ge h.own e; omega), h.only.trans ho, h.zero⟩
theorem Mk.by_ (h : Mk W g W1 k v n cs) : By W g W1 (ncl k v none256) := ⟨h.b2, h.b3, h.only⟩
theorem Mk.size (h : Mk W g W1 k v n cs) : W.heap.size + 2 ≤ W1.heap.size := blk_lt h.b3
theorem Mk.form (h : Mk W g W1 k v n cs) : ∃ ao cap, v = .slice ao n cap := by
  rcases h.own.2 with ⟨rfl, h0⟩ | ⟨g', cap', cur, rfl, _⟩
  · exact ⟨none, 0, by rw [h0]⟩
  · exact ⟨_, _, rfl⟩
theorem Mk.c1 (h : Mk W g W1 k v n cs) : W1.cell? ⟨W.heap.size + 1, 1, none⟩ = some v := (blk_cell h.b3 1).trans (by rw [List.getElem?_toArray, ncl]; rfl)
theorem Mk.kids (h : Mk W g W1 k v n cs) : Kids W1 (fun b => W.heap.size + 2 ≤ b) v n cs := by
  rcases Nat.eq_zero_or_pos n with h0 | h0
  · exact .inl ⟨h0, h.zero h0⟩
  · obtain ⟨b, cap, rfl, hb, _⟩ := h.own.form h0
    refine .inr ⟨h0, h.own.1, b, cap, hb, rfl, fun j u hu => ?_⟩
    rw [Nat.zero_add, h.own.cellAt j (by rw [← h.own.1]; exact (List.getElem?_eq_some_iff.1 hu).1)]
    exact hu
theorem Mk.one (h : Mk W g W1 k v n cs) : v.oneCell' = true := by
  obtain ⟨ao, cap, rfl⟩ := h.form
  rfl
end

theorem Held.via {w5 wx : World} {g n : Nat} {t : T} {cs : List Value} (h : Held w5 (fun b => n ≤ b) t cs) (ho : Only g w5 wx) (hg : g < n) : Held wx (fun b => n ≤ b) t cs :=
  ho.held h fun b hb _ => ⟨by omega, hb⟩
theorem NodeV.via {w5 wx : World} {g n e : Nat} {t : T} {cs : List Value} (h : NodeV n w5 e t cs) (ho : Only g w5 wx) (hg : g < n) : NodeV n wx e t cs :=
  ⟨h.len, h.one, fun he => ho.held (h.held he) fun b hb _ => ⟨by omega, hb⟩⟩
theorem many_none {A : Rd} (h1 : A.isB 43 = false) (h2 : A.isB 63 = false) (h3 : A.isB 42 = false) (p : Nat) (t : T) : A.many p = A ∧ manyT A t = t := by
  rw [Rd.many, manyT, h1, h2, h3]
  exact ⟨rfl, rfl⟩
/-- A node of one kid. -/
theorem NodeV.rep {w5 wx : World} {g n e b K : Nat} {t : T} {cs : List Value} (h : NodeV n w5 e t cs) (ho : Only g w5 wx) (hg : g < n) (hn : n ≤ b) (hb : wx.heap[b]? = some (.cells cs.toArray 38 (0, 0))) :
    NodeV n wx e (.node K (.snoc .nil t)) (ncl K (.slice (some ⟨b, 0, none⟩) 1 1) none256) :=
  ⟨ncl_length _ _ _, ncl_one rfl, fun he => ⟨_, cs, rfl, ⟨[], cs, rfl, rfl, h.len, rfl, (h.via ho hg).held he⟩, .inr ⟨Nat.one_pos, by show cs.length = 1 * 258; rw [h.len], b, 1, hn, rfl, fun j v hv => by
    rw [Nat.zero_add, cell_of_row _ _ _ _ _ _ hb]
    simpa using hv⟩⟩⟩
theorem ncl_slot (k : Int) (v u : Value) (f : Nat → Bool) : (ncl k v f).set 1 u = ncl k u f := rfl

theorem append_cell {W w4 w5 w8 w9 : World} {g cnt : Nat} {ao : Option Addr} {cap : Nat} {o : Obj}
    (hW5 : W.heap.size + 2 ≤ w4.heap.size ∧ w4.heap.size ≤ w5.heap.size ∧ (∀ b, (Value.slice ao cnt cap).ownBlock = some b → W.heap.size + 2 ≤ b ∧ b < w4.heap.size)) (hO5 : Only g w4 w8)
    (hgrow : (w8.alloc o).grownBy w9 (Value.slice ao cnt cap).ownBlock) : w9.heap[W.heap.size + 1]? = w8.heap[W.heap.size + 1]? := by
  have h48 := hO5.size
  exact (hgrow.block _ (by simp; omega) (fun e => by have := (hW5.2.2 _ e.symm).1; omega)).trans (Below.heap_alloc _ _ _ (by omega))
/-- A kid is put: what stands behind it. -/
theorem append_step {W w4 w5 w8 w9 : World} {g cnt cap2 gg e : Nat} {ao : Option Addr} {cap : Nat} {cs cs2 : List Value} {t : T}
    (hW5 : W.heap.size + 2 ≤ w4.heap.size ∧ w4.heap.size ≤ w5.heap.size ∧ (∀ b, (Value.slice ao cnt cap).ownBlock = some b → W.heap.size + 2 ≤ b ∧ b < w4.heap.size)) (hO5 : Only g w4 w8) (hM8 : Mk W g w8 1 (.slice ao cnt cap) cnt cs) (hN8 : NodeV w4.heap.size w8 e t cs2)
    (hgl : g < W.heap.size) (hown : w9.ownsRow (W.heap.size + 2) 38 258 (.slice (some ⟨gg, 0, none⟩) (cnt + 1) cap2) (cnt + 1) (cs ++ cs2))
    (hgrow : (w8.alloc (.cells cs2.toArray 38)).grownBy w9 (Value.slice ao cnt cap).ownBlock) (hat : (Value.slice ao cnt cap).ownBlock = some gg ∨ gg = w8.heap.size + 1) :
    (∀ b, b < w8.heap.size → (Value.slice ao cnt cap).ownBlock ≠ some b → b ≠ W.heap.size + 1 → (w9.setCell ⟨W.heap.size + 1, 1, none⟩ (.slice (some ⟨gg, 0, none⟩) (cnt + 1) cap2)).heap[b]? = w8.heap[b]?) ∧
    Mk W g (w9.setCell ⟨W.heap.size + 1, 1, none⟩ (.slice (some ⟨gg, 0, none⟩) (cnt + 1) cap2)) 1 (.slice (some ⟨gg, 0, none⟩) (cnt + 1) cap2) (cnt + 1) (cs ++ cs2) ∧
    (e = 0 → ∀ kt : T, kt.len = cnt → Held w4 (fun b => W.heap.size + 2 ≤ b ∧ (Value.slice ao cnt cap).ownBlock ≠ some b) kt cs →
      Held (w9.setCell ⟨W.heap.size + 1, 1, none⟩ (.slice (some ⟨gg, 0, none⟩) (cnt + 1) cap2)) (fun b => W.heap.size + 2 ≤ b ∧ (Value.slice (some ⟨gg, 0, none⟩) (cnt + 1) cap2).ownBlock ≠ some b) (.snoc kt t) (cs ++ cs2)) := by
  have hkeep : ∀ b, b < w8.heap.size → (Value.slice ao cnt cap).ownBlock ≠ some b → b ≠ W.heap.size + 1 → (w9.setCell ⟨W.heap.size + 1, 1, none⟩ (.slice (some ⟨gg, 0, none⟩) (cnt + 1) cap2)).heap[b]? = w8.heap[b]? := fun b hb h1 h2 =>
    (Below.heap_setCell _ _ _ _ h2).trans ((hgrow.block b (by simp; omega) (fun e => h1 e.symm)).trans (Below.heap_alloc _ _ _ hb))
  have hown8 : ∀ b, (Value.slice ao cnt cap).ownBlock = some b → W.heap.size + 2 ≤ b ∧ b < w4.heap.size := hW5.2.2
  have h48 := hO5.size
  have hgg : W.heap.size + 2 ≤ gg := by
    rcases hat with h | h
    · exact (hown8 gg h).1
    · omega
  refine ⟨hkeep, ⟨?_, ?_, ?_, ?_, fun h => by omega⟩, fun he kt hk hH => ⟨cs, cs2, rfl, by rw [hM8.own.1, hk], hN8.len, ?_, ?_⟩⟩
  · exact (hkeep _ (by omega) (fun h => by have := (hown8 _ h).1; omega) (by omega)).trans hM8.b2
  · have hb : w9.heap[W.heap.size + 1]? = w8.heap[W.heap.size + 1]? := (hgrow.block _ (by simp; omega) (fun e => by have := (hown8 _ e.symm).1; omega)).trans (Below.heap_alloc _ _ _ (by omega))
    rw [blk_set (hb.trans hM8.b3), ncl_kids]
  · exact own_set hown (fun k hk => by simp [Value.ownBlock] at hk; subst hk; show gg ≠ W.heap.size + 1; omega) _
  · exact ((hM8.only.alloc _).grown hgrow (fun k hk => by have := (hown8 k hk).1; omega)).cell (.inr (by show W.heap.size ≤ W.heap.size + 1; omega)) _
  · refine hH.keep fun b hb hlt => ⟨?_, hb.1, fun h => ?_⟩
    · exact (hkeep b (by omega) hb.2 (by omega)).trans (hO5.block b hlt (by omega))
    · simp [Value.ownBlock] at h
      subst h
      rcases hat with h | h
      · exact hb.2 h
      · omega
  · refine (hN8.held he).keep fun b hb hlt => ⟨?_, by show W.heap.size + 2 ≤ b; omega, fun h => ?_⟩
    · exact hkeep b hlt (fun h => by have := (hown8 b h).2; omega) (by omega)
    · simp [Value.ownBlock] at h
      subst h
      rcases hat with h | h
      · have := (hown8 gg h).2; omega
      · omega

theorem Ra.of_blk {W W' : World} {g : Nat} {r : Rd} (h : Ra W g r) (hb : W'.heap[g]? = W.heap[g]?) : Ra W' g r := by
  obtain ⟨a, d, hB, hk⟩ := h
  exact ⟨a, d, hb.trans hB, hk⟩
theorem Ra.drewN {W : World} {g : Nat} {r : Rd} (h : Ra W g r) (n : Nat) : Ra (W.drewN n) g r := by
  obtain ⟨a, d, hb, hk⟩ := h
  exact ⟨a, d, hb, hk⟩
theorem Ra.alloc {W : World} {g : Nat} {r : Rd} (h : Ra W g r) (o : Obj) : Ra (W.alloc o) g r := by
  obtain ⟨a, d, hb, hk⟩ := h
  exact ⟨a, d, hb.alloc o, hk⟩
theorem own_lt5 {W w4 w5 : World} {g : Nat} {k : Int} {v : Value} {n : Nat} {cs : List Value} (h : Mk W g w4 k v n cs) (ho : Only g w4 w5) : W.heap.size + 2 ≤ w4.heap.size ∧ w4.heap.size ≤ w5.heap.size ∧ (∀ b, v.ownBlock = some b → W.heap.size + 2 ≤ b ∧ b < w4.heap.size) :=
  ⟨h.size, ho.size, fun _ hb => own_ge h.own hb⟩
theorem piecesT_stop (grp : Rd → Rd) (grpT : Rd → T) {r : Rd} (h : r.stops = true) (l : T) : ∀ n, piecesT grp grpT n r l = l
  | 0 => rfl
  | n + 1 => by rw [piecesT, if_pos h]
theorem pieces_stop (grp : Rd → Rd) {r : Rd} (h : r.stops = true) : ∀ n, Rd.pieces grp n r = r
  | 0 => rfl
  | n + 1 => by rw [Rd.pieces, if_pos h]

set_option maxRecDepth 100000 in
set_option maxHeartbeats 8000000 in
theorem pieces_of (k : Nat) (hA : AtomR k) : PiecesR k := by
  intro W g r hI he htop hsz _ hd
  have HA := Lib.hid hA; clear hA
  have HD := Lib.hid hd; clear hd
  have HE := Lib.hid he; clear he
  have hz := zeroNode
  have hne := ncl_ne 0 nilS none256
  have hk3 := ncl_kind 0 1 nilS none256
  have hst := storeNode_new (W.alloc (.cells (ncl 0 nilS none256).toArray 38)) (W.heap.size + 1) (by simp) (ncl_length 0 nilS none256) (ncl_length 1 nilS none256) (ncl_one rfl)
  have hgl := RB.lt hI
  have hI1 : Ro ((W.alloc (.cells (ncl 0 nilS none256).toArray 38)).alloc (.cells (ncl 1 nilS none256).toArray 38)) g r := (RB.alloc hI _).alloc _
  have hB1 : Mk W g ((W.alloc (.cells (ncl 0 nilS none256).toArray 38)).alloc (.cells (ncl 1 nilS none256).toArray 38)) 1 nilS 0 [] :=
    ⟨blk_alloc (blk_new W _) _, blk_new2 W _ _, World.ownsRow_nil _ _ _ _, ((Only.refl g W).alloc _).alloc _, fun _ => rfl⟩
  go_enter Try.func51, Try.ntmps51
  go_wp2_with fail
  generalize ((W.alloc (.cells (ncl 0 nilS none256).toArray 38)).alloc (.cells (ncl 1 nilS none256).toArray 38)) = W1 at hI1 hB1 ⊢
  clear hne hk3 hst
  have HI1 := Lib.hid hI1; clear hI1 hI
  have HB1 := Lib.hid hB1; clear hB1
  go_loopg [] r.fuel (fun n wq => ∃ (r1 : Rd) (sl : Value) (cnt : Nat) (cs : List Value) (kt : T), Ra wq g r1 ∧ Mk W g wq 1 sl cnt cs ∧ Nxt r r1 ∧ Rd.pieces (Rd.group k) n r1 = Rd.pieces (Rd.group k) r.fuel r ∧
    (r1.err = 0 → r1.fuel ≤ n ∧ cnt ≤ r1.at_ ∧ kt.len = cnt ∧ Held wq (fun b => W.heap.size + 2 ≤ b ∧ sl.ownBlock ≠ some b) kt cs ∧ piecesT (Rd.group k) (groupT k) n r1 kt = piecesT (Rd.group k) (groupT k) r.fuel r .nil))
  case atStart => exact ⟨r, nilS, 0, [], .nil, HI1.out.any, HB1.out, Nxt.refl r, rfl, fun _ => ⟨Nat.le_refl _, Nat.zero_le _, rfl, rfl, rfl⟩⟩
  case round =>
    obtain ⟨r1, sl, cnt, cs, kt, hI2, hM2, hN2, hP2, hH2⟩ := hrel
    clear HI1 HB1
    have HI2 := Lib.hid hI2; clear hI2
    have HM2 := Lib.hid hM2; clear hM2
    have HN2 := Lib.hid hN2; clear hN2
    have HP2 := Lib.hid hP2; clear hP2
    have HH2 := Lib.hid hH2; clear hH2
    go_wp2_with fail
    go_cut [32] (fun s wx => s = .bool (!r1.stops) ∧ ∃ m, wx = wr.drewN m)
    case first =>
      by_cases he : r1.err = 0
      · have hRo := HI2.out.ok he
        have c0 := RB.c0 hRo
        have c1 := RB.c1 hRo
        have HR := Lib.hid hRo; clear hRo
        by_cases hh : r1.has = true
        · have hlt' := ((Rd.has_iff _).1 hh).2
          have hcb := cur_byte hlt'
          by_cases h1 : r1.cur = 124
          · have HS := Lib.hid (show r1.stops = true by rw [Rd.stops, h1]; simp)
            rw [h1] at hcb
            have HH := Lib.hid hh; clear hh h1 he
            go_quiet ((go_at_call 52; refine quiet_more_is (RB.drewN HR.out _) HH.out))
            go_wp2_with fail
            go_meet
            case rel => exact ⟨by rw [HS.out]; rfl, _, rfl⟩
          · have b1 : (((r1.s[r1.at_]'hlt').toNat : Int) != 124) = true := by rw [hcb, bne_iff_ne]; omega
            by_cases h2 : r1.cur = 41
            · have HS := Lib.hid (show r1.stops = true by rw [Rd.stops, h2]; simp)
              rw [h2] at hcb
              have HH := Lib.hid hh; clear hh h1 h2 he b1
              go_quiet ((go_at_call 52; refine quiet_more_is (RB.drewN HR.out _) HH.out))
              go_wp2_with fail
              go_meet
              case rel => exact ⟨by rw [HS.out]; rfl, _, rfl⟩
            · have b2 : (((r1.s[r1.at_]'hlt').toNat : Int) != 41) = true := by rw [hcb, bne_iff_ne]; omega
              have HS := Lib.hid (show r1.stops = false by rw [Rd.stops, hh]; simp [h1, h2])
              have HH := Lib.hid hh; clear hh h1 h2 he hcb
              go_quiet ((go_at_call 52; refine quiet_more_is (RB.drewN HR.out _) HH.out))
              go_wp2_with fail
              go_meet
              case rel => exact ⟨by rw [HS.out]; rfl, _, rfl⟩
        · have hh' : r1.has = false := by simpa using hh
          have HS := Lib.hid (show r1.stops = true by rw [Rd.stops, hh']; rfl)
          have HH := Lib.hid hh'; clear hh hh' he
          go_quiet ((go_at_call 52; refine quiet_more_is (RB.drewN HR.out _) HH.out))
          go_wp2_with fail
          go_meet
          case rel => exact ⟨by rw [HS.out]; rfl, _, rfl⟩
      · have HS := Lib.hid (Rd.stops_err r1 he)
        have HE2 := Lib.hid he; clear he
        go_quiet ((go_at_call 52; refine quiet_bad (Ra.drewN HI2.out _) HE2.out))
        go_wp2_with fail
        go_meet
        case rel => exact ⟨by rw [HS.out]; rfl, _, rfl⟩
    case rest =>
      obtain ⟨rfl, m2, rfl⟩ := hcut
      have HI3 : Hid (Ra (wr.drewN m2) g r1) := Lib.hid (by obtain ⟨a, d, hb, hk⟩ := HI2.out; exact ⟨a, d, hb, hk⟩)
      have HM3 := Lib.hid (HM2.out.call hgl ((Only.refl g wr).drewN m2))
      have HH3 : Hid (r1.err = 0 → r1.fuel ≤ gk ∧ cnt ≤ r1.at_ ∧ kt.len = cnt ∧ Held (wr.drewN m2) (fun b => W.heap.size + 2 ≤ b ∧ sl.ownBlock ≠ some b) kt cs ∧ piecesT (Rd.group k) (groupT k) gk r1 kt = piecesT (Rd.group k) (groupT k) r.fuel r .nil) :=
        Lib.hid fun h => by
          obtain ⟨h1, h2, h3, h4, h5⟩ := HH2.out h
          exact ⟨h1, h2, h3, h4.keep (W := wr) (W1 := wr.drewN m2) fun b hb _ => ⟨rfl, hb⟩, h5⟩
      generalize wr.drewN m2 = w3 at HI3 HM3 HH3 ⊢
      clear HI2 HM2 HH2
      obtain ⟨st, hst⟩ : ∃ x, r1.stops = x := ⟨_, rfl⟩
      rw [hst]
      cases st
      · have hst' : r1.has = true ∧ r1.cur ≠ 124 ∧ r1.cur ≠ 41 := by
          simp [Rd.stops] at hst
          exact ⟨hst.1.1, hst.1.2, hst.2⟩
        obtain ⟨he1, hlt1⟩ := (Rd.has_iff _).1 hst'.1
        have HSt := Lib.hid hst; clear hst
        have hRo := HI3.out.ok he1
        have c0 := RB.c0 hRo
        have c1 := RB.c1 hRo
        have HR3 := Lib.hid hRo; clear hRo HI3
        have hsz1 : r1.s.size ≤ 4096 := by rw [HN2.out.s]; exact hsz
        have HE1 := Lib.hid he1; clear he1
        have HHas := Lib.hid hst'.1; clear hst'
        go_upto_region 3 with fail
        go_cut [4] (fun s wx => s = .int .u8 (r1.cur : Int) ∧ ∃ m, wx = w3.drewN m)
        case first =>
          have hcb := Lib.hid (cur_byte hlt1)
          go_quiet (fail)
          go_wp2_with fail
          go_meet
          case rel => exact ⟨by rw [← hcb.out], _, rfl⟩
        case rest =>
          obtain ⟨rfl, m3, rfl⟩ := hcut
          clear c0 c1
          have HR4 := Lib.hid (RB.drewN HR3.out m3)
          have HM4 := Lib.hid (HM3.out.call hgl ((Only.refl g w3).drewN m3))
          have HH4 : Hid (r1.fuel ≤ gk ∧ cnt ≤ r1.at_ ∧ kt.len = cnt ∧ Held (w3.drewN m3) (fun b => W.heap.size + 2 ≤ b ∧ sl.ownBlock ≠ some b) kt cs ∧ piecesT (Rd.group k) (groupT k) gk r1 kt = piecesT (Rd.group k) (groupT k) r.fuel r .nil) :=
            Lib.hid (by
              obtain ⟨h1, h2, h3, h4, h5⟩ := HH3.out HE1.out
              exact ⟨h1, h2, h3, h4.keep (W := w3) (W1 := w3.drewN m3) fun b hb _ => ⟨rfl, hb⟩, h5⟩)
          generalize w3.drewN m3 = w4 at HR4 HM4 HH4 ⊢
          clear HR3 HM3 HH3
          have hcu := cur_lt r1
          go_upto_region 4 with fail
          go_cut [4, 55] (fun s4 s wx => s4 = .int .u8 (r1.cur : Int) ∧ s = .bool r1.noAtom ∧ wx = w4)
          case first =>
            by_cases hna : r1.cur = 42 ∨ r1.cur = 43 ∨ r1.cur = 63 ∨ r1.cur = 93
            · have HS := Lib.hid (show r1.noAtom = true by rw [Rd.noAtom]; simp; omega)
              rcases hna with h | h | h | h
              all_goals
                rw [h]
                have H4 := Lib.hid h; clear h
                go_wp2_with fail
                go_meet
                case rel => exact ⟨by rw [H4.out], by rw [HS.out], rfl⟩
            · have HS := Lib.hid (show r1.noAtom = false by rw [Rd.noAtom]; simp; omega)
              have b1 : ((r1.cur : Int) == 42) = false := by rw [beq_eq_false_iff_ne]; omega
              have b2 : ((r1.cur : Int) == 43) = false := by rw [beq_eq_false_iff_ne]; omega
              have b3 : ((r1.cur : Int) == 63) = false := by rw [beq_eq_false_iff_ne]; omega
              have b4 : ((r1.cur : Int) == 93) = false := by rw [beq_eq_false_iff_ne]; omega
              clear hna
              go_wp2_with fail
              go_meet
              case rel => exact ⟨rfl, by rw [HS.out], rfl⟩
          case rest =>
            obtain ⟨rfl, rfl, rfl⟩ := hcut
            obtain ⟨na, hna⟩ : ∃ x, r1.noAtom = x := ⟨_, rfl⟩
            rw [hna]
            obtain ⟨n, rfl⟩ : ∃ n, gk = n + 1 := ⟨gk - 1, by have h1 := HH4.out.1; have := r1.fuel_pos (Nat.le_of_lt hlt1); omega⟩
            have c1 := RB.c1 HR4.out
            cases na
            · have hp : Rd.pieces (Rd.group k) (n + 1) r1 = Rd.pieces (Rd.group k) n ((r1.atom (Rd.group k)).many r1.l.length) := by rw [Rd.pieces, if_neg (by rw [HSt.out]; simp), if_neg (by rw [hna]; simp)]
              have HP := Lib.hid (hp.symm.trans HP2.out); clear hp
              have HNa := Lib.hid hna; clear hna
              have hdp : r1.deep + k = 40 := by rw [HN2.out.deep]; exact HD.out
              have HDp := Lib.hid hdp; clear hdp
              go_wp2_with fail
              refine (HA.out _ g r1 HR4.out HE1.out (Nat.le_of_lt hlt1) hsz1 (fun _ => hlt1) HDp.out).mono ?_
              rintro q w5 ⟨cs1, rfl, hN5, hI5, hO5⟩
              have HM5 := Lib.hid (HM4.out.call hgl hO5)
              have hst := storeNode_new w5 w5.heap.size rfl (ncl_length 0 nilS none256) hN5.len hN5.one
              have hne := ncl_ne 0 nilS none256
              have hlen1 := hN5.len
              have hI6 := Ra.alloc hI5 (.cells cs1.toArray 38)
              have hb6 := blk_new w5 (.cells cs1.toArray 38)
              have hO6 := (Only.refl g w5).alloc (.cells cs1.toArray 38)
              have HI6 := Lib.hid hI6; clear hI6 hI5
              have HB6 := Lib.hid hb6; clear hb6
              have HO5 := Lib.hid hO5; clear hO5
              have HN5 := Lib.hid hN5; clear hN5
              have HO6 := Lib.hid hO6; clear hO6
              have hat := Rd.atom_nxt r1 (Rd.group k) (Rd.group_nxt k) HHas.out
              have hgo := Rd.atom_go r1 (Rd.group k) (Rd.group_go k) HHas.out
              obtain ⟨A, hA⟩ : ∃ A, A = r1.atom (Rd.group k) := ⟨_, rfl⟩
              rw [← hA] at hat hgo HP HI6 HN5
              have hAs : A.s.size ≤ 4096 := by rw [hat.s]; exact hsz1
              have hAt : A.at_ ≤ A.s.size := by rw [hat.s]; exact hat.top (Nat.le_of_lt hlt1)
              have HA1 := Lib.hid hA; clear hA
              have HAT := Lib.hid hat; clear hat
              have HGO := Lib.hid hgo; clear hgo
              have HW5 := Lib.hid (own_lt5 HM4.out HO5.out)
              go_upto_region 8 with fail
              clear hst hne c1
              go_cut [66] (fun s wx => s = .bool A.has ∧ ∃ m, wx = (w5.alloc (.cells cs1.toArray 38)).drewN m)
              case first =>
                by_cases he : A.err = 0
                · have HEA := Lib.hid he; clear he
                  go_wp2_with fail
                  refine (more_ok (HI6.out.ok HEA.out)).mono ?_
                  rintro q w6 ⟨rfl, m6, rfl⟩
                  go_wp2_with fail
                  go_meet
                  case rel => exact ⟨rfl, _, rfl⟩
                · have HEA := Lib.hid he
                  have HHas2 := Lib.hid (show A.has = false by rw [Bool.eq_false_iff]; exact fun h => he ((Rd.has_iff _).1 h).1)
                  clear he
                  go_wp2_with fail
                  refine (more_bad HI6.out HEA.out).mono ?_
                  rintro q w6 ⟨rfl, m6, rfl⟩
                  go_wp2_with fail
                  go_meet
                  case rel => exact ⟨by rw [HHas2.out], _, rfl⟩
              case rest =>
                obtain ⟨rfl, m6, rfl⟩ := hcut
                have HR6 := Lib.hid (Ra.drewN HI6.out m6)
                have HB7 : Hid (((w5.alloc (.cells cs1.toArray 38)).drewN m6).heap[w5.heap.size]? = some (.cells cs1.toArray 38 (0, 0))) := HB6.out
                have HO7 := Lib.hid (HO6.out.drewN m6)
                generalize (w5.alloc (.cells cs1.toArray 38)).drewN m6 = w6 at HR6 HB7 HO7 ⊢
                clear HI6 HB6 HO6
                go_upto_if 66 with fail
                go_cut [] (fun wx => ∃ cs2 : List Value, Ra wx g (A.many r1.l.length) ∧ wx.heap[w5.heap.size]? = some (.cells cs2.toArray 38 (0, 0)) ∧ NodeV wc.heap.size wx A.err (manyT A (atomT (groupT k) r1)) cs2 ∧ Only g w5 wx)
                case first =>
                  by_cases hh : A.has = true
                  · have hRo := HR6.out.ok ((Rd.has_iff _).1 hh).1
                    have c0 := RB.c0 hRo
                    have c1 := RB.c1 hRo
                    have f1 := RB.fz hRo 1
                    have HRo := Lib.hid hRo; clear hRo
                    have hlq := ((Rd.has_iff _).1 hh).2
                    have hcb := cur_byte hlq
                    have hgw : g < wc.heap.size := by have := HW5.out.1; omega
                    have hbg : w5.heap.size ≠ g := by have := HW5.out.2.1; omega
                    have h5w := HW5.out.2.1
                    have h4w := HW5.out.1
                    have h6b := blk_lt HB7.out
                    by_cases h42 : A.cur = 42
                    · have hmn : A.many r1.l.length = A.many r1.l.length ∧ manyT A (atomT (groupT k) r1) = .node 4 (.snoc .nil (atomT (groupT k) r1)) := ⟨rfl, (by rw [manyT, if_neg (by rw [Rd.isB, hh, h42]; decide), if_neg (by rw [Rd.isB, hh, h42]; decide), if_pos (by rw [Rd.isB, hh, h42]; decide)])⟩
                      have hra : ∀ wx : World, Ra wx g A.adv → Ra wx g (A.many r1.l.length) := fun wx h => by
                        have : Ra wx g (A.many r1.l.length) = Ra wx g A.adv := (by rw [Rd.many, if_neg (by rw [Rd.isB, hh, h42]; decide), if_neg (by rw [Rd.isB, hh, h42]; decide), if_pos (by rw [Rd.isB, hh, h42]; decide), Rd.isR, if_pos (by rw [Rd.isB, hh, h42]; decide)]; rfl)
                        rw [this]; exact h
                      have HRa := Lib.hid hra; clear hra
                      have HMn := Lib.hid hmn.2; clear hmn
                      rw [h42] at hcb
                      have HHx := Lib.hid hh
                      clear h42
                      rw [hh]
                      clear hh
                      have hk0 := ncl_kind 0 4 nilS none256
                      have hne := ncl_ne 0 nilS none256
                      have hk1 := ncl_slot 4 nilS (.slice (some ⟨w6.heap.size, 0, none⟩) 1 1) none256
                      go_wp2_with fail
                      go_quiet (fail)
                      have hB9 : ((w6.drewN nq).alloc (.cells cs1.toArray 38)).heap[w5.heap.size]? = some (.cells cs1.toArray 38 (0, 0)) := blk_alloc (w := w6.drewN nq) HB7.out _
                      have hsc := storeNode hB9 hlen1 (ncl_length 4 (.slice (some ⟨w6.heap.size, 0, none⟩) 1 1) none256) (ncl_one rfl)
                      have hR9 := RB.row (RB.alloc (RB.drewN HRo.out nq) (.cells cs1.toArray 38)) (p := w5.heap.size) hbg (ncl 4 (.slice (some ⟨w6.heap.size, 0, none⟩) 1 1) none256).toArray
                      have c1' := RB.c1 hR9
                      have f1' := RB.fz hR9 1
                      have HB9 := Lib.hid hB9; clear hB9
                      have HR9 := Lib.hid hR9; clear hR9
                      clear c0 c1 f1
                      go_wp2_with fail
                      refine wp_load_row 38 (.tmp 5) rfl w5.heap.size rfl 38 _ (0, 0) _ HB7.out Try.underlying38 rfl (by rw [nodeSize]; simp [hlen1]) ?_
                      go_wp2_with fail
                      refine wp_slice1 35 38 258 _ (.tmp 78) rfl cs1.toArray rfl Try.underlying35 infoNode (by decide) (by decide) (by simp [hlen1]) ?_
                      go_wp2_with fail
                      go_meet
                      case rel =>
                        have hO9 := (((HO7.out.drewN nq).alloc (.cells cs1.toArray 38)).row (b := w5.heap.size) (.inr (Nat.le_refl _)) (ncl 4 (.slice (some ⟨w6.heap.size, 0, none⟩) 1 1) none256).toArray).cell (p := ⟨g, 1, none⟩) (.inl rfl) (.int .i64 ((A.at_ : Int) + 1))
                        refine ⟨ncl 4 (.slice (some ⟨w6.heap.size, 0, none⟩) 1 1) none256, HRa.out _ (Ro.any (r := A.adv) (RB.set1 HR9.out _)), ?_, ?_, hO9⟩
                        · exact (Below.heap_setCell _ _ _ _ (by show w5.heap.size ≠ g; exact hbg)).trans (setRow_heap _ _ _ _ _ _ HB9.out)
                        · rw [HMn.out]
                          refine HN5.out.rep hO9 hgw (by have := HW5.out.2.1; omega) ?_
                          refine (Below.heap_setCell _ _ _ _ (by show w6.heap.size ≠ g; omega)).trans ((setRow_other _ _ _ _ (by omega)).trans ?_)
                          exact blk_new (w6.drewN nq) _
                    · have b42 : (((A.s[A.at_]'hlq).toNat : Int) == 42) = false := by rw [hcb, beq_eq_false_iff_ne]; omega
                      by_cases h43 : A.cur = 43
                      · clear b42
                        have hmn : A.many r1.l.length = A.many r1.l.length ∧ manyT A (atomT (groupT k) r1) = .node 5 (.snoc .nil (atomT (groupT k) r1)) := ⟨rfl, (by rw [manyT, if_pos (by rw [Rd.isB, hh, h43]; decide)])⟩
                        have hra : ∀ wx : World, Ra wx g A.adv → Ra wx g (A.many r1.l.length) := fun wx h => by
                          have : Ra wx g (A.many r1.l.length) = Ra wx g A.adv := (by rw [Rd.many, if_pos (by rw [Rd.isB, hh, h43]; decide), Rd.isR, if_pos (by rw [Rd.isB, hh, h43]; decide)]; rfl)
                          rw [this]; exact h
                        have HRa := Lib.hid hra; clear hra
                        have HMn := Lib.hid hmn.2; clear hmn
                        rw [h43] at hcb
                        have HHx := Lib.hid hh
                        clear h43
                        rw [hh]
                        clear hh
                        have hk0 := ncl_kind 0 5 nilS none256
                        have hne := ncl_ne 0 nilS none256
                        have hk1 := ncl_slot 5 nilS (.slice (some ⟨w6.heap.size, 0, none⟩) 1 1) none256
                        go_wp2_with fail
                        go_quiet (fail)
                        have hB9 : ((w6.drewN nq).alloc (.cells cs1.toArray 38)).heap[w5.heap.size]? = some (.cells cs1.toArray 38 (0, 0)) := blk_alloc (w := w6.drewN nq) HB7.out _
                        have hsc := storeNode hB9 hlen1 (ncl_length 5 (.slice (some ⟨w6.heap.size, 0, none⟩) 1 1) none256) (ncl_one rfl)
                        have hR9 := RB.row (RB.alloc (RB.drewN HRo.out nq) (.cells cs1.toArray 38)) (p := w5.heap.size) hbg (ncl 5 (.slice (some ⟨w6.heap.size, 0, none⟩) 1 1) none256).toArray
                        have c1' := RB.c1 hR9
                        have f1' := RB.fz hR9 1
                        have HB9 := Lib.hid hB9; clear hB9
                        have HR9 := Lib.hid hR9; clear hR9
                        clear c0 c1 f1
                        go_wp2_with fail
                        refine wp_load_row 38 (.tmp 5) rfl w5.heap.size rfl 38 _ (0, 0) _ HB7.out Try.underlying38 rfl (by rw [nodeSize]; simp [hlen1]) ?_
                        go_wp2_with fail
                        refine wp_slice1 35 38 258 _ (.tmp 90) rfl cs1.toArray rfl Try.underlying35 infoNode (by decide) (by decide) (by simp [hlen1]) ?_
                        go_wp2_with fail
                        go_meet
                        case rel =>
                          have hO9 := (((HO7.out.drewN nq).alloc (.cells cs1.toArray 38)).row (b := w5.heap.size) (.inr (Nat.le_refl _)) (ncl 5 (.slice (some ⟨w6.heap.size, 0, none⟩) 1 1) none256).toArray).cell (p := ⟨g, 1, none⟩) (.inl rfl) (.int .i64 ((A.at_ : Int) + 1))
                          refine ⟨ncl 5 (.slice (some ⟨w6.heap.size, 0, none⟩) 1 1) none256, HRa.out _ (Ro.any (r := A.adv) (RB.set1 HR9.out _)), ?_, ?_, hO9⟩
                          · exact (Below.heap_setCell _ _ _ _ (by show w5.heap.size ≠ g; exact hbg)).trans (setRow_heap _ _ _ _ _ _ HB9.out)
                          · rw [HMn.out]
                            refine HN5.out.rep hO9 hgw (by have := HW5.out.2.1; omega) ?_
                            refine (Below.heap_setCell _ _ _ _ (by show w6.heap.size ≠ g; omega)).trans ((setRow_other _ _ _ _ (by omega)).trans ?_)
                            exact blk_new (w6.drewN nq) _
                      · have b43 : (((A.s[A.at_]'hlq).toNat : Int) == 43) = false := by rw [hcb, beq_eq_false_iff_ne]; omega
                        by_cases h63 : A.cur = 63
                        · clear b42 b43
                          have hmn : A.many r1.l.length = A.many r1.l.length ∧ manyT A (atomT (groupT k) r1) = .node 6 (.snoc .nil (atomT (groupT k) r1)) := ⟨rfl, (by rw [manyT, if_neg (by rw [Rd.isB, hh, h63]; decide), if_pos (by rw [Rd.isB, hh, h63]; decide)])⟩
                          have hra : ∀ wx : World, Ra wx g A.adv → Ra wx g (A.many r1.l.length) := fun wx h => by
                            have : Ra wx g (A.many r1.l.length) = Ra wx g A.adv := (by rw [Rd.many, if_neg (by rw [Rd.isB, hh, h63]; decide), if_pos (by rw [Rd.isB, hh, h63]; decide), Rd.isR, if_pos (by rw [Rd.isB, hh, h63]; decide)]; rfl)
                            rw [this]; exact h
                          have HRa := Lib.hid hra; clear hra
                          have HMn := Lib.hid hmn.2; clear hmn
                          rw [h63] at hcb
                          have HHx := Lib.hid hh
                          clear h63
                          rw [hh]
                          clear hh
                          have hk0 := ncl_kind 0 6 nilS none256
                          have hne := ncl_ne 0 nilS none256
                          have hk1 := ncl_slot 6 nilS (.slice (some ⟨w6.heap.size, 0, none⟩) 1 1) none256
                          go_wp2_with fail
                          go_quiet (fail)
                          have hB9 : ((w6.drewN nq).alloc (.cells cs1.toArray 38)).heap[w5.heap.size]? = some (.cells cs1.toArray 38 (0, 0)) := blk_alloc (w := w6.drewN nq) HB7.out _
                          have hsc := storeNode hB9 hlen1 (ncl_length 6 (.slice (some ⟨w6.heap.size, 0, none⟩) 1 1) none256) (ncl_one rfl)
                          have hR9 := RB.row (RB.alloc (RB.drewN HRo.out nq) (.cells cs1.toArray 38)) (p := w5.heap.size) hbg (ncl 6 (.slice (some ⟨w6.heap.size, 0, none⟩) 1 1) none256).toArray
                          have c1' := RB.c1 hR9
                          have f1' := RB.fz hR9 1
                          have HB9 := Lib.hid hB9; clear hB9
                          have HR9 := Lib.hid hR9; clear hR9
                          clear c0 c1 f1
                          go_wp2_with fail
                          refine wp_load_row 38 (.tmp 5) rfl w5.heap.size rfl 38 _ (0, 0) _ HB7.out Try.underlying38 rfl (by rw [nodeSize]; simp [hlen1]) ?_
                          go_wp2_with fail
                          refine wp_slice1 35 38 258 _ (.tmp 102) rfl cs1.toArray rfl Try.underlying35 infoNode (by decide) (by decide) (by simp [hlen1]) ?_
                          go_wp2_with fail
                          go_meet
                          case rel =>
                            have hO9 := (((HO7.out.drewN nq).alloc (.cells cs1.toArray 38)).row (b := w5.heap.size) (.inr (Nat.le_refl _)) (ncl 6 (.slice (some ⟨w6.heap.size, 0, none⟩) 1 1) none256).toArray).cell (p := ⟨g, 1, none⟩) (.inl rfl) (.int .i64 ((A.at_ : Int) + 1))
                            refine ⟨ncl 6 (.slice (some ⟨w6.heap.size, 0, none⟩) 1 1) none256, HRa.out _ (Ro.any (r := A.adv) (RB.set1 HR9.out _)), ?_, ?_, hO9⟩
                            · exact (Below.heap_setCell _ _ _ _ (by show w5.heap.size ≠ g; exact hbg)).trans (setRow_heap _ _ _ _ _ _ HB9.out)
                            · rw [HMn.out]
                              refine HN5.out.rep hO9 hgw (by have := HW5.out.2.1; omega) ?_
                              refine (Below.heap_setCell _ _ _ _ (by show w6.heap.size ≠ g; omega)).trans ((setRow_other _ _ _ _ (by omega)).trans ?_)
                              exact blk_new (w6.drewN nq) _
                        · have b63 : (((A.s[A.at_]'hlq).toNat : Int) == 63) = false := by rw [hcb, beq_eq_false_iff_ne]; omega
                          have hmn := Lib.hid (many_none (isB_no h43) (isB_no h63) (isB_no h42) r1.l.length (atomT (groupT k) r1))
                          have HHx := Lib.hid hh
                          clear h42 h43 h63
                          rw [hh]
                          clear hcb hh
                          go_wp2_with fail
                          go_quiet (fail)
                          go_wp2_with fail
                          go_meet
                          case rel => exact ⟨cs1, by rw [hmn.out.1]; exact HR6.out.drewN _, HB7.out, by rw [hmn.out.2]; exact HN5.out.via (HO7.out.drewN _) hgw, HO7.out.drewN _⟩
                  · have hh' : A.has = false := by simpa using hh
                    have hgw : g < wc.heap.size := by have := HW5.out.1; omega
                    have hmn := Lib.hid (many_none (isB_end (c := 43) hh') (isB_end (c := 63) hh') (isB_end (c := 42) hh') r1.l.length (atomT (groupT k) r1))
                    have HHx := Lib.hid hh'
                    rw [hh']
                    clear hh hh'
                    go_wp2_with fail
                    go_meet
                    case rel => exact ⟨cs1, by rw [hmn.out.1]; exact HR6.out, HB7.out, by rw [hmn.out.2]; exact HN5.out.via HO7.out hgw, HO7.out⟩
                case rest =>
                  obtain ⟨cs2, hR8, hb8, hN8, hO8⟩ := hcut
                  have hM8 := HM5.out.call hgl hO8
                  obtain ⟨ao, cap, rfl⟩ := hM8.form
                  obtain ⟨i0, hi0, hz0, hz1, hz2⟩ := info_parts infoNode3
                  have hc1 := hM8.c1
                  have hf1 := blk_frozen hM8.b3 1
                  have hlen2 := hN8.len
                  have hown8 := hM8.own
                  have hsz8 := hO8.size
                  have hcnt : cnt ≤ 4096 := by have := HH4.out.2.1; omega
                  have HR8 := Lib.hid hR8; clear hR8
                  have HB8 := Lib.hid hb8; clear hb8
                  have HN8 := Lib.hid hN8; clear hN8
                  have HO8 := Lib.hid (HO5.out.trans hO8); clear hO8
                  have HM8 := Lib.hid hM8; clear hM8
                  have HOwn8 := Lib.hid hown8; clear hown8
                  clear HR6 HB7 HO7 HN5 HM5 HO5 HR4
                  go_wp2_with fail
                  refine wp_load_row 38 (.tmp 5) rfl w5.heap.size rfl 38 _ (0, 0) _ HB8.out Try.underlying38 rfl (by rw [nodeSize]; simp [hlen2]) ?_
                  go_wp2_with fail
                  refine wp_slice1 35 38 258 _ (.tmp 114) rfl cs2.toArray rfl Try.underlying35 infoNode (by decide) (by decide) (by simp [hlen2]) ?_
                  go_wp2_with fail
                  refine wp_append_lies _ (.tmp 113) (.tmp 115) 35 rfl (W.heap.size + 2) 38 i0 (.agg (ncl 0 nilS none256).toArray) 258 288 Try.underlying35 hi0 hz0 hz1 hz2 (by simp [Value.cells, ncl_length]) (by decide) (.slice ao cnt cap) cnt cs rfl (HOwn8.out.alloc _) ⟨wc.heap.size, 0, none⟩ 1 1 cs2 rfl (by rw [hlen2]) (World.news_of_block (cs := cs2.toArray) (t := 38) (fr := (0, 0)) (blk_new _ _)) HN8.out.one (by decide) (by unfold maxLen; omega) (by omega) (by have := HM8.out.size; simp; omega) (wc.heap.size + 1) (by simp) ?_
                  intro gg cap2 w9 hown9 hgrow9 hat9 hlt9
                  have hbk := append_cell HW5.out HO8.out hgrow9
                  have hk9 : w9.cell? ⟨W.heap.size + 1, 1, none⟩ = some (.slice ao cnt cap) := (World.cell?_of_block hbk).trans hc1
                  have hf9 : w9.frozen? ⟨W.heap.size + 1, 1, none⟩ = false := (World.frozen?_of_block hbk).trans hf1
                  clear hbk
                  have HAp := Lib.hid (And.intro hown9 (And.intro hgrow9 (And.intro hat9 hlt9))); clear hown9 hgrow9 hat9 hlt9 hc1 hf1
                  go_wp2_with fail
                  go_roundg n
                  case measure => omega
                  case rel =>
                    obtain ⟨hown9, hgrow9, hat9, hlt9⟩ := HAp.out
                    obtain ⟨hkeep, hMk, hHeld⟩ := append_step HW5.out HO8.out HM8.out HN8.out hgl hown9 hgrow9 hat9
                    have hAm := Rd.many_nxt A r1.l.length HAT.out.mono
                    have hg8 := HM8.out.size
                    refine ⟨A.many r1.l.length, _, _, _, .snoc kt (manyT A (atomT (groupT k) r1)), HR8.out.of_blk (hkeep g (by omega) (fun h => by have := (HW5.out.2.2 g h).1; omega) (by omega)), hMk, (HN2.out.trans HAT.out).trans hAm, HP.out, fun he => ?_⟩
                    have e1 : A.err = 0 := by rw [← Rd.many_err A r1.l.length]; exact he
                    obtain ⟨h1, h2, h3, h4, h5⟩ := HH4.out
                    have e2 := HGO.out e1
                    have e3 := Rd.many_le A r1.l.length
                    refine ⟨?_, by omega, by show kt.len + 1 = cnt + 1; omega, hHeld e1 kt h3 h4, ?_⟩
                    · have e4 := (HAT.out.trans hAm).s
                      unfold Rd.fuel at *
                      rw [e4]; omega
                    · rw [← h5, piecesT, if_neg (by rw [HSt.out]; simp), if_neg (by rw [HNa.out]; simp), ← HA1.out]
            · --<
              have HP := Lib.hid (show Rd.pieces (Rd.group k) r.fuel r = r1.fail 2 r1.at_ by rw [← HP2.out, Rd.pieces, if_neg (by rw [HSt.out]; simp), if_pos hna])
              have HNa := Lib.hid hna; clear hna
              go_wp2_with fail
              refine (rfail_calls 2 r1.at_ HR4.out HE1.out).mono ?_
              rintro q w5 ⟨rfl, hI5, hO5⟩
              have HM5 := Lib.hid (HM4.out.call hgl hO5)
              have HRa := Lib.hid hI5.any; clear hI5 hO5
              have hfe := r1.fail_err 2 r1.at_ (by decide)
              have HFe := Lib.hid hfe; clear hfe
              have HNv0 := Lib.hid (NodeV.bad (n := W.heap.size + 2) (W' := w5) (t := catT (Rd.group k) (groupT k) r) (ncl_length 1 sl none256) (ncl_one HM5.out.one) HFe.out)
              have hlen := ncl_length 1 sl none256
              have hnv := HNv0.out
              have hra := HRa.out
              rw [← HP.out] at hnv hra
              have hby := HM5.out.by_
              have hsc := storeNode hby.b2 (ncl_length _ _ _) hlen hnv.one
              have HBy := Lib.hid hby; clear hby
              have HNv := Lib.hid hnv; clear hnv
              have HRa2 := Lib.hid hra; clear hra
              go_wp2_with fail
              refine wp_load_row 38 (.tmp 3) rfl (W.heap.size + 1) rfl 38 _ (0, 0) _ HBy.out.b3 Try.underlying38 rfl (by rw [nodeSize]; simp [hlen]) ?_
              go_wp2_with fail
              refine bodyPost_ret_by (results_cell_row (p := 2) (ty := 38) rfl _ _ W.heap.size 38 _ (0, 0) _ rfl (setRow_heap _ _ _ _ _ _ HBy.out.b2) Try.underlying38 rfl (by rw [nodeSize]; simp [hlen])) rfl ?_
              exact ⟨_, rfl, HNv.out.done (by omega) _, HRa2.out.row (by omega) _, HBy.out.only.row (.inr (Nat.le_refl _)) _⟩
      · --<
        have HP := Lib.hid (show Rd.pieces (Rd.group k) r.fuel r = r1 by rw [← HP2.out, pieces_stop _ hst])
        have HSt := Lib.hid hst; clear hst
        have HM5 := Lib.hid HM3.out
        have HRa := Lib.hid HI3.out
        have hnv0 : NodeV (W.heap.size + 2) w3 r1.err (catT (Rd.group k) (groupT k) r) (ncl 1 sl none256) := ⟨ncl_length _ _ _, ncl_one HM5.out.one, fun he => by
          obtain ⟨_, _, h3, h4, h5⟩ := HH3.out he
          rw [catT, ← h5, piecesT_stop _ _ HSt.out]
          exact (show Held w3 (fun b => W.heap.size + 2 ≤ b) (.node 1 kt) _ from ⟨sl, cs, rfl, h4.up fun b hb => hb.1, by rw [h3]; exact HM5.out.kids⟩)⟩
        have HNv0 := Lib.hid hnv0; clear hnv0
        have hlen := ncl_length 1 sl none256
        have hnv := HNv0.out
        have hra := HRa.out
        rw [← HP.out] at hnv hra
        have hby := HM5.out.by_
        have hsc := storeNode hby.b2 (ncl_length _ _ _) hlen hnv.one
        have HBy := Lib.hid hby; clear hby
        have HNv := Lib.hid hnv; clear hnv
        have HRa2 := Lib.hid hra; clear hra
        go_wp2_with fail
        refine wp_load_row 38 (.tmp 3) rfl (W.heap.size + 1) rfl 38 _ (0, 0) _ HBy.out.b3 Try.underlying38 rfl (by rw [nodeSize]; simp [hlen]) ?_
        go_wp2_with fail
        refine bodyPost_ret_by (results_cell_row (p := 2) (ty := 38) rfl _ _ W.heap.size 38 _ (0, 0) _ rfl (setRow_heap _ _ _ _ _ _ HBy.out.b2) Try.underlying38 rfl (by rw [nodeSize]; simp [hlen])) rfl ?_
        exact ⟨_, rfl, HNv.out.done (by omega) _, HRa2.out.row (by omega) _, HBy.out.only.row (.inr (Nat.le_refl _)) _⟩
end Go.Proofs.Ytokcffkffcfolaa.Rh
