/-
  The document's reader: class.
-/
import Derived.Test.YtokcffkffcfolaaRhB
import Derived.Test.YtokcffkffcfolaaRsA
import Derived.Deep.WholeRow
import Derived.Deep.DeepCutAuto
import Derived.Deep.LoopGhost
namespace Go.Proofs.Ytokcffkffcfolaa.Rh
open Go Go.RowKit Go.Proofs.Ytokcffkffcfolaa.Rg
variable {W : World} {g : Nat} {r : Rd}

theorem infoNode : (Try.prog.info? 38).map (fun i => (i.zero, i.size)) = some (some (.agg (ncl 0 nilS none256).toArray), 258) := by kernel_rfl
theorem nodeSize : (Try.prog.info? 38).map (·.size) = some 258 := by kernel_rfl
theorem zeroNode (w : World) : (zeroValue 38).run Try.prog w = .ok (.agg (ncl 0 nilS none256).toArray) w := (zero_of_info infoNode).1 w
theorem builtSet : Try.prog.built 38 [(0, .int .i64 3)] = some (ncl 3 nilS none256).toArray := by kernel_rfl

theorem ncl_ne (k : Int) (v : Value) (f : Nat → Bool) : (ncl k v f = []) = False := by simp [ncl]
theorem ncl_kind (k j : Int) (v : Value) (f : Nat → Bool) : (ncl k v f).set 0 (.int .i64 j) = ncl j v f := rfl
/-- A node is laid into a block. -/
theorem storeNode {w : World} {b : Nat} {cs cs' : List Value} (hb : w.heap[b]? = some (.cells cs.toArray 38 (0, 0))) (h : cs.length = 258) (h' : cs'.length = 258) (h1 : ∀ u ∈ cs', u.oneCell' = true) :
    (storeCells ⟨b, 0, none⟩ cs').run Try.prog w = .ok () (w.setRow b cs'.toArray) := by
  have := run_storeCells_from (P := Try.prog) b 38 cs' 0 cs.toArray w hb (by simp; omega) h1
  simpa using this
theorem storeNode_new (W1 : World) (n : Nat) (hn : n = W1.heap.size) {cs cs' : List Value} (h : cs.length = 258) (h' : cs'.length = 258) (h1 : ∀ u ∈ cs', u.oneCell' = true) :
    (storeCells ⟨n, 0, none⟩ cs').run Try.prog (W1.alloc (.cells cs.toArray 38)) = .ok () (W1.alloc (.cells cs'.toArray 38)) := by
  subst hn
  rw [storeNode (blk_new _ _) h h' h1, World.setRow_alloc_new]
theorem loadNode {w : World} {b : Nat} {cs : List Value} (hb : w.heap[b]? = some (.cells cs.toArray 38 (0, 0))) (h : cs.length = 258) :
    (loadCellsFrom ⟨b, 0, none⟩ 0 258 #[]).run Try.prog w = .ok cs.toArray w := by
  have := run_loadCells_list (P := Try.prog) w ⟨b, 0, none⟩ cs (fun j v hv => by
    have hadd : (⟨b, 0, none⟩ : Addr).add j = ⟨b, j, none⟩ := by unfold Addr.add; split <;> simp_all
    rw [hadd, cell_of_row w b j _ _ _ hb]
    simpa using hv)
  rw [h] at this
  simpa [loadCells] using this

theorem isB_yes {c : Nat} (h : r.has = true) (hc : r.cur = c) : r.isB c = true := by rw [Rd.isB, h, hc]; simp
theorem isB_no {c : Nat} (hc : r.cur ≠ c) : r.isB c = false := by rw [Rd.isB]; simp [hc]
theorem isB_end {c : Nat} (h : r.has = false) : r.isB c = false := by rw [Rd.isB, h]; rfl
theorem cur_byte (h : r.at_ < r.s.size) : ((r.s[r.at_]'h).toNat : Int) = (r.cur : Int) := by rw [Rd.cur, byteAt, dif_pos h]
theorem quiet_more_is {n : Nat} (hI : Ro (W.drewN n) g r) {x : Bool} (hx : r.has = x) :
    Calls Try.prog 52 #[.pointer (some ⟨g, 0, none⟩)] (W.drewN n) fun q W' => q = .returned (.bool x) ∧ ∃ m, W' = W.drewN m := hx ▸ quiet_more hI

/-- In the midst of a method that makes a node: where its result will lie, the node. -/
structure Bx (W : World) (g : Nat) (W1 : World) (f : Nat → Bool) : Prop where
  b2 : W1.heap[W.heap.size]? = some (.cells (ncl 0 nilS none256).toArray 38 (0, 0))
  b3 : W1.heap[W.heap.size + 1]? = some (.cells (ncl 3 nilS f).toArray 38 (0, 0))
  only : Only g W W1
section
variable {W1 W2 : World} {f : Nat → Bool}
theorem Bx.call (h : Bx W g W1 f) (hg : g < W.heap.size) (ho : Only g W1 W2) : Bx W g W2 f := ⟨ho.blk h.b2 (by omega), ho.blk h.b3 (by omega), h.only.trans ho⟩
theorem Bx.drewN (h : Bx W g W1 f) (n : Nat) : Bx W g (W1.drewN n) f := ⟨h.b2, h.b3, h.only.drewN n⟩
theorem Bx.put (h : Bx W g W1 f) (c : Nat) (hc : c < 256) (b : Bool) : Bx W g (W1.setCell ⟨W.heap.size + 1, 2 + c, none⟩ (.bool b)) (fun x => if x = c then b else f x) :=
  ⟨blk_far h.b2 (by show W.heap.size ≠ W.heap.size + 1; omega) _, (blk_set h.b3 _ _).trans (by rw [ncl_set 3 nilS f c hc b]), h.only.cell (.inr (by show W.heap.size ≤ W.heap.size + 1; omega)) _⟩
theorem Bx.rd (h : Bx W g W1 f) (hg : g < W.heap.size) (i : Nat) (u : Value) : Bx W g (W1.setCell ⟨g, i, none⟩ u) f := h.call hg ((Only.refl g W1).cell (.inl rfl) u)
theorem Bx.congr (h : Bx W g W1 f) {f' : Nat → Bool} (e : ∀ c, c < 256 → f c = f' c) : Bx W g W1 f' := ⟨h.b2, by rw [h.b3, ncl, ncl, bcells_congr e], h.only⟩
end

theorem zero_has : Bs.zero.has = none256 := by
  funext c
  unfold Bs.has Bs.word Bs.zero none256
  split <;> simp
/-- Another item is to come. -/
def goes (first : Bool) (r1 : Rd) : Bool := first || (r1.err == 0 && !r1.isB 93)
/-- In the midst of the items of a class: what is yet to be read comes to R and S. -/
structure Lp (R : Rd) (S : Bs) (first : Bool) (n : Nat) (r1 : Rd) (S1 : Bs) : Prop where
  top : r1.at_ ≤ r1.s.size
  go : goes first r1 = true → r1.err = 0 ∧ Rd.itemsR n r1 = R ∧ Rd.itemsS n r1 S1 = S ∧ r1.fuel ≤ n
  no : goes first r1 = false → r1.isR 93 = R ∧ S1 = S
theorem Lp.start (he : r.err = 0) (ht : r.at_ ≤ r.s.size) : Lp (Rd.itemsR r.fuel r) (Rd.itemsS r.fuel r .zero) true r.fuel r .zero := ⟨ht, fun _ => ⟨he, rfl, rfl, Nat.le_refl _⟩, fun h => by cases h⟩
theorem Lp.pos {R : Rd} {S : Bs} {first : Bool} {n : Nat} {r1 : Rd} {S1 : Bs} (h : Lp R S first n r1 S1) (hg : goes first r1 = true) : ∃ m, n = m + 1 := by
  have h1 := (h.go hg).2.2.2
  have h2 := h.top
  unfold Rd.fuel at h1
  exact ⟨n - 1, by omega⟩
theorem Lp.next {R : Rd} {S : Bs} {first : Bool} {n : Nat} {r1 : Rd} {S1 : Bs} (h : Lp R S first (n + 1) r1 S1) (hg : goes first r1 = true) : Lp R S false n r1.rangeR (S1.putRange r1.rangeLo r1.rangeHi) := by
  obtain ⟨he, hR, hS, hf⟩ := h.go hg
  have hx := r1.rangeR_ext
  have ht := hx.top h.top
  refine ⟨by rw [hx.s]; exact ht, fun hg2 => ?_, fun hg2 => ?_⟩
  · have hg3 : r1.rangeR.err = 0 ∧ r1.rangeR.isB 93 = false := by simpa [goes] using hg2
    have hgo := r1.rangeR_go hg3.1
    refine ⟨hg3.1, ?_, ?_, ?_⟩
    · rw [← hR, Rd.itemsR, if_pos hg3]
    · rw [← hS, Rd.itemsS, if_pos hg3]
    · unfold Rd.fuel at *; rw [hx.s]; omega
  · have hg3 : ¬ (r1.rangeR.err = 0 ∧ r1.rangeR.isB 93 = false) := fun h3 => by
      rw [goes, h3.1, h3.2] at hg2; simp at hg2
    exact ⟨by rw [← hR, Rd.itemsR, if_neg hg3], by rw [← hS, Rd.itemsS, if_neg hg3]⟩

theorem put_fun (S : Bs) (i c : Nat) (hi : i < 256) (hc : c < 256) : (S.put i).has c = if c = i then true else S.has c := by
  rw [Bs.put_has S i c hi hc]
  by_cases h : c = i
  · subst h; simp
  · rw [if_neg h]; simp [h]
/-- The bytes below k turned. -/
def negK (S : Bs) (k : Nat) : Nat → Bool := fun c => if c < k then !S.has c else S.has c
theorem classS_fun (hS : (Rd.itemsS r.classI.fuel r.classI .zero).ok) : ∀ c, c < 256 → (if r.classN = true then negK (Rd.itemsS r.classI.fuel r.classI .zero) 256 c else (Rd.itemsS r.classI.fuel r.classI .zero).has c) = r.classS.has c := by
  intro c hc
  unfold Rd.classS
  split
  · rw [Bs.neg_has _ hS c hc, negK, if_pos hc]
  · rfl

theorem negK_step (S : Bs) (k c : Nat) : (if c = k then !negK S k k else negK S k c) = negK S (k + 1) c := by
  unfold negK
  by_cases h : c = k
  · subst h; simp
  · rw [if_neg h]
    by_cases h2 : c < k
    · rw [if_pos h2, if_pos (by omega)]
    · rw [if_neg h2, if_neg (by omega)]
theorem Ra.far (h : Ra W g r) {p : Addr} (hp : p.block ≠ g) (u : Value) : Ra (W.setCell p u) g r := by
  obtain ⟨a, d, hb, hk⟩ := h
  exact ⟨a, d, hb.far hp u, hk⟩
theorem Ra.row (h : Ra W g r) {p : Nat} (hp : p ≠ g) (cs : Array Value) : Ra (W.setRow p cs) g r := by
  obtain ⟨a, d, hb, hk⟩ := h
  exact ⟨a, d, hb.row hp cs, hk⟩
theorem Ra.put (h : Ra W g r) (x : Inst) : Ra W g (r.put x) := h

set_option maxRecDepth 100000 in
set_option maxHeartbeats 8000000 in
theorem class_calls (hI : Ro W g r) (he : r.err = 0) (hlt : r.at_ < r.s.size) (hsz : r.s.size ≤ 4096) :
    Calls Try.prog 70 #[.pointer (some ⟨g, 0, none⟩)] W fun q W' => q = .returned (.agg (ncl 3 nilS r.classS.has).toArray) ∧ Ra W' g r.class_ ∧ Only g W W' := by
  have hz := zeroNode
  have hne := ncl_ne 0 nilS none256
  have hk3 := ncl_kind 0 3 nilS none256
  have hst := storeNode_new (W.alloc (.cells (ncl 0 nilS none256).toArray 38)) (W.heap.size + 1) (by simp) (ncl_length 0 nilS none256) (ncl_length 3 nilS none256) (ncl_one rfl)
  have c1 := RB.c1 hI
  have f1 := RB.fz hI 1
  have hgl := RB.lt hI
  have hI1 : Ro (((W.setCell ⟨g, 1, none⟩ (.int .i64 ((r.at_ : Int) + 1))).alloc (.cells (ncl 0 nilS none256).toArray 38)).alloc (.cells (ncl 3 nilS none256).toArray 38)) g r.adv :=
    ((RB.set1 hI _).alloc _).alloc _
  have hB1 : Bx W g (((W.setCell ⟨g, 1, none⟩ (.int .i64 ((r.at_ : Int) + 1))).alloc (.cells (ncl 0 nilS none256).toArray 38)).alloc (.cells (ncl 3 nilS none256).toArray 38)) none256 := by
    refine ⟨?_, ?_, (((Only.refl g W).cell (.inl rfl) _).alloc _).alloc _⟩
    · have := blk_alloc (blk_new (W.setCell ⟨g, 1, none⟩ (.int .i64 ((r.at_ : Int) + 1))) (.cells (ncl 0 nilS none256).toArray 38)) (.cells (ncl 3 nilS none256).toArray 38)
      simpa [World.setCell] using this
    · have := blk_new2 (W.setCell ⟨g, 1, none⟩ (.int .i64 ((r.at_ : Int) + 1))) (.cells (ncl 0 nilS none256).toArray 38) (.cells (ncl 3 nilS none256).toArray 38)
      simpa [World.setCell] using this
  have HE := Lib.hid he; clear he
  go_enter Try.func70, Try.ntmps70
  go_wp2_with fail
  generalize (((W.setCell ⟨g, 1, none⟩ (.int .i64 ((r.at_ : Int) + 1))).alloc (.cells (ncl 0 nilS none256).toArray 38)).alloc (.cells (ncl 3 nilS none256).toArray 38)) = W1 at hI1 hB1 ⊢
  clear hz hne hk3 hst c1 f1
  have HI1 := Lib.hid hI1; clear hI1 hI
  have HB1 := Lib.hid hB1; clear hB1
  go_cut [4] (fun s wx => s = .bool ((r.adv).isB 94) ∧ ∃ m, wx = (W1).drewN m)
  case first =>
    have c0 := RB.c0 HI1.out
    have c1 := RB.c1 HI1.out
    by_cases hh : (r.adv).has = true
    · have hlt' := ((Rd.has_iff _).1 hh).2
      have hcb := cur_byte hlt'
      by_cases hc : (r.adv).cur = 94
      · have HB := Lib.hid (isB_yes hh hc)
        rw [hc] at hcb
        have HH := Lib.hid hh; clear hh hc
        go_quiet ((go_at_call 52; refine quiet_more_is (RB.drewN HI1.out _) HH.out))
        go_wp2_with fail
        go_meet
        case rel => exact ⟨by rw [HB.out], _, rfl⟩
      · have HB := Lib.hid (isB_no hc)
        have hcx : ((((r.adv).s[(r.adv).at_]'hlt').toNat : Int) == 94) = false := by rw [hcb, beq_eq_false_iff_ne]; omega
        have HH := Lib.hid hh; clear hh hc hcb
        go_quiet ((go_at_call 52; refine quiet_more_is (RB.drewN HI1.out _) HH.out))
        go_wp2_with fail
        go_meet
        case rel => exact ⟨by rw [HB.out], _, rfl⟩
    · have hh' : (r.adv).has = false := by simpa using hh
      have HB := Lib.hid (isB_end (c := 94) hh')
      have HH := Lib.hid hh'; clear hh hh'
      go_quiet ((go_at_call 52; refine quiet_more_is (RB.drewN HI1.out _) HH.out))
      go_wp2_with fail
      go_meet
      case rel => exact ⟨by rw [HB.out], _, rfl⟩
  case rest =>
    obtain ⟨rfl, m, rfl⟩ := hcut
    have HI2 := Lib.hid (RB.drewN HI1.out m)
    have HB2 := Lib.hid (HB1.out.drewN m)
    generalize W1.drewN m = W2 at HI2 HB2 ⊢
    clear HI1 HB1
    have htop0 : r.adv.at_ ≤ r.s.size := hlt
    go_upto_if 33 with fail
    go_cut [4] (fun s4 wx => s4 = .bool (r.adv.isB 94) ∧ Ro wx g r.classI ∧ Bx W g wx none256)
    case first =>
      obtain ⟨x, hx⟩ : ∃ x, r.adv.isB 94 = x := ⟨_, rfl⟩
      rw [hx]
      have hcI : r.classI = if x = true then r.adv.adv else r.adv := by rw [Rd.classI, Rd.isR, hx]
      have HX := Lib.hid hx; clear hx
      have c1 := RB.c1 HI2.out
      have f1 := RB.fz HI2.out 1
      cases x
      · have HcI := Lib.hid hcI; clear hcI
        go_wp2_with fail
        go_meet
        case rel => exact ⟨by rw [HX.out], by rw [HcI.out]; exact HI2.out, HB2.out⟩
      · have HcI := Lib.hid hcI; clear hcI
        go_wp2_with fail
        go_meet
        case rel => exact ⟨by rw [HX.out], by rw [HcI.out]; exact RB.set1 HI2.out (r.adv.at_ + 1 : Nat), HB2.out.rd hgl 1 _⟩
    case rest =>
      obtain ⟨rfl, hI3, hB3⟩ := hcut
      have HI3 := Lib.hid hI3; clear hI3
      have HB3 := Lib.hid hB3; clear hB3
      clear HI2 HB2
      have he3 : r.classI.err = 0 := by rw [Rd.classI, Rd.isR_err]; exact HE.out
      have htop3 : r.classI.at_ ≤ r.s.size := (Rd.isR_ext r.adv 94).top htop0
      have hs3 : r.classI.s = r.s := (Rd.isR_ext r.adv 94).s
      have HL := Lib.hid (Lp.start he3 (by rw [hs3]; exact htop3)); clear he3 htop3
      have HS3 := Lib.hid hs3; clear hs3
      clear HE hlt htop0
      go_wp2_with fail
      go_loopg [5] r.classI.fuel (fun n s5 wq => ∃ (first : Bool) (r1 : Rd) (S1 : Bs), s5 = .bool first ∧ Ro wq g r1 ∧ Bx W g wq S1.has ∧ r1.s = r.s ∧ Lp (Rd.itemsR r.classI.fuel r.classI) (Rd.itemsS r.classI.fuel r.classI .zero) first n r1 S1)
      case atStart => exact ⟨true, r.classI, .zero, rfl, HI3.out, by rw [zero_has]; exact HB3.out, HS3.out, HL.out⟩
      case round =>
        obtain ⟨first, r1, S1, rfl, hI4, hB4, hs4, hL4⟩ := hrel
        clear HI3 HB3 HL HS3
        have htop4 := hL4.top
        have hsz4 : r1.s.size ≤ 4096 := by rw [hs4]; exact hsz
        have HI4 := Lib.hid hI4; clear hI4
        have HB4 := Lib.hid hB4; clear hB4
        have HS4 := Lib.hid hs4; clear hs4
        have HL4 := Lib.hid hL4; clear hL4
        go_wp2_with fail
        go_cut [5, 72] (fun s5 s wx => s5 = .bool first ∧ s = .bool (goes first r1) ∧ ∃ m, wx = wr.drewN m)
        case first =>
          have c0 := RB.c0 HI4.out
          have c1 := RB.c1 HI4.out
          have c3 := RB.c3 HI4.out
          cases first
          · by_cases he : r1.err = 0
            · by_cases hlt : r1.at_ < r1.s.size
              · have hcb := cur_byte hlt
                have hd : decide (r1.s.size ≤ r1.at_) = false := by simp; omega
                have hh : r1.has = true := (Rd.has_iff _).2 ⟨he, hlt⟩
                by_cases hc : r1.cur = 93
                · have hg : goes false r1 = false := by rw [goes, isB_yes hh hc]; simp
                  rw [hc] at hcb
                  rw [he] at c3
                  have HG := Lib.hid hg; clear hg he hc hh
                  go_quiet (fail)
                  go_wp2_with fail
                  go_meet
                  case rel => exact ⟨rfl, by rw [HG.out], _, rfl⟩
                · have hg : goes false r1 = true := by rw [goes, isB_no hc, he]; simp
                  have hcx : (((r1.s[r1.at_]'hlt).toNat : Int) != 93) = true := by rw [hcb, bne_iff_ne]; omega
                  rw [he] at c3
                  have HG := Lib.hid hg; clear hg he hc hh hcb
                  go_quiet (fail)
                  go_wp2_with fail
                  go_meet
                  case rel => exact ⟨rfl, by rw [HG.out], _, rfl⟩
              · have hh : r1.has = false := by
                  rw [Bool.eq_false_iff]
                  exact fun h => hlt ((Rd.has_iff _).1 h).2
                have hd : decide (r1.s.size ≤ r1.at_) = true := by simp; omega
                have hg : goes false r1 = true := by rw [goes, isB_end hh, he]; simp
                rw [he] at c3
                have HG := Lib.hid hg; clear hg he hh hlt
                go_quiet (fail)
                go_wp2_with fail
                go_meet
                case rel => exact ⟨rfl, by rw [HG.out], _, rfl⟩
            · have hd : ((r1.err : Int) == 0) = false := by rw [beq_eq_false_iff_ne]; omega
              have hg : goes false r1 = false := by rw [goes]; simp [he]
              have HG := Lib.hid hg; clear hg he
              go_quiet (fail)
              go_wp2_with fail
              go_meet
              case rel => exact ⟨rfl, by rw [HG.out], _, rfl⟩
          · have he := (HL4.out.go rfl).1
            rw [he] at c3
            have HG := Lib.hid (show goes true r1 = true from rfl)
            clear he
            go_quiet (fail)
            go_wp2_with fail
            go_meet
            case rel => exact ⟨rfl, by rw [HG.out], _, rfl⟩
        case rest =>
          obtain ⟨rfl, rfl, m4, rfl⟩ := hcut
          have HI5 := Lib.hid (RB.drewN HI4.out m4)
          have HB5 := Lib.hid (HB4.out.drewN m4)
          generalize wr.drewN m4 = w5 at HI5 HB5 ⊢
          clear HI4 HB4
          obtain ⟨go, hgo⟩ : ∃ x, goes first r1 = x := ⟨_, rfl⟩
          rw [hgo]
          have HGo := Lib.hid hgo; clear hgo
          cases go
          · have c1 := RB.c1 HI5.out
            have f1 := RB.fz HI5.out 1
            obtain ⟨hR, hS⟩ := HL4.out.no HGo.out
            rw [hS] at HB5
            have hsz5 : r1.s.size ≤ 4096 := hsz4
            have hfin : Ra (w5.setCell ⟨g, 1, none⟩ (.int .i64 ((r1.at_ : Int) + 1))) g (Rd.itemsR r.classI.fuel r.classI) := by
              rw [← hR]
              by_cases hb : r1.isB 93 = true
              · rw [Rd.isR, if_pos hb]; exact Ro.any (RB.set1 HI5.out _)
              · rw [Rd.isR, if_neg hb]
                have hne : r1.err ≠ 0 := fun h => by
                  have h2 := HGo.out
                  rw [goes, h] at h2
                  have h3 : r1.isB 93 = false := by simpa using hb
                  rw [h3] at h2; simp at h2
                exact ⟨_, _, RB.set1 HI5.out _, fun h => absurd h hne⟩
            have HF := Lib.hid hfin; clear hfin hR hS
            have HB6 := Lib.hid (HB5.out.rd hgl 1 (.int .i64 ((r1.at_ : Int) + 1)))
            clear HL4 HS4 HGo HI5
            go_upto_if 134 with fail
            generalize w5.setCell ⟨g, 1, none⟩ (.int .i64 ((r1.at_ : Int) + 1)) = w6 at HF HB6 ⊢
            clear c1 f1 HB5
            go_cut [4] (fun s4 wx => Ra wx g r.class_ ∧ Bx W g wx r.classS.has)
            case first =>
              have hok := itemsS_ok r.classI.fuel r.classI .zero zero_ok
              have hfun := classS_fun hok
              have hN : r.adv.isB 94 = r.classN := rfl
              rw [hN]
              obtain ⟨x, hx⟩ : ∃ x, r.classN = x := ⟨_, rfl⟩
              rw [hx] at hfun ⊢
              have HFun := Lib.hid hfun; clear hfun hok hN
              cases x
              · have HX := Lib.hid hx; clear hx
                go_wp2_with fail
                go_meet
                case rel => exact ⟨HF.out, HB6.out.congr fun c hc => by rw [← HFun.out c hc]; rfl⟩
              · have HX := Lib.hid hx; clear hx
                go_wp2_with fail
                go_loopw [10] (fun i wq => ∃ k : Nat, k ≤ 256 ∧ i = .int .i64 (k : Int) ∧ Ra wq g r.class_ ∧ Bx W g wq (negK (Rd.itemsS r.classI.fuel r.classI .zero) k)) (fun i _ => 256 - (intOf i).toNat)
                case atStart => exact ⟨0, Nat.zero_le _, rfl, HF.out, HB6.out.congr fun c hc => by rw [negK, if_neg (by omega)]⟩
                case round =>
                  obtain ⟨k, hk, rfl, hI12, hB12⟩ := hrel
                  have cb := blk_cell hB12.b3 (2 + k)
                  have fb := blk_frozen hB12.b3 (2 + k)
                  have HI12 := Lib.hid hI12; clear hI12
                  have HB12 := Lib.hid hB12; clear hB12
                  by_cases hlk : k < 256
                  · simp only [List.getElem?_toArray] at cb
                    rw [ncl_get 3 nilS _ _ hlk] at cb
                    go_wp2_with fail
                    go_roundw
                    case rel => exact ⟨k + 1, by omega, by go_num, HI12.out.far (p := ⟨W.heap.size + 1, 2 + k, none⟩) (by show W.heap.size + 1 ≠ g; omega) _, (HB12.out.put _ hlk _).congr fun c hc => negK_step _ k c⟩
                    case measure => (simp [intOf] <;> omega)
                  · have hke : k = 256 := by omega
                    subst hke
                    clear cb
                    go_wp2_with fail
                    go_meet
                    case rel => exact ⟨HI12.out, HB12.out.congr fun c hc => by rw [← HFun.out c hc]; rfl⟩
            case rest =>
              obtain ⟨hI13, hB13⟩ := hcut
              have hsc := storeNode hB13.b2 (ncl_length _ _ _) (ncl_length 3 nilS r.classS.has) (ncl_one rfl)
              have hb2 : ∃ cs, wc.heap[W.heap.size]? = some (.cells cs 38 (0, 0)) := ⟨_, hB13.b2⟩
              have HI13 := Lib.hid hI13; clear hI13
              have HB13 := Lib.hid hB13; clear hB13
              clear HF HB6
              go_wp2_with fail
              refine wp_load_row 38 (.tmp 3) rfl (W.heap.size + 1) rfl 38 _ (0, 0) _ HB13.out.b3 Try.underlying38 rfl (by rw [nodeSize]; simp [ncl_length]) ?_
              go_wp2_with fail
              refine bodyPost_ret_by (results_cell_row (p := 2) (ty := 38) rfl _ _ W.heap.size 38 _ (0, 0) _ rfl (setRow_heap _ _ _ _ _ _ HB13.out.b2) Try.underlying38 rfl (by rw [nodeSize]; simp [ncl_length])) rfl ⟨rfl, HI13.out.row (by omega) _, HB13.out.only.row (.inr (Nat.le_refl _)) _⟩
          · obtain ⟨n, rfl⟩ := HL4.out.pos HGo.out
            have he5 := (HL4.out.go HGo.out).1
            have HE5 := Lib.hid he5; clear he5
            go_wp2_with fail
            refine (ritem_calls HI5.out HE5.out hsz4 htop4).mono ?_
            rintro q W6 ⟨rfl, hI6, hO6⟩
            have HI6 := Lib.hid hI6; clear hI6
            have HB6 := Lib.hid (HB5.out.call hgl hO6); clear hO6 HI5 HB5
            go_wp2_with fail
            go_cut [89] (fun s wx => s = .bool ((r1.itemR).isB 45) ∧ ∃ m, wx = (W6).drewN m)
            case first =>
              have c0 := RB.c0 HI6.out
              have c1 := RB.c1 HI6.out
              by_cases hh : (r1.itemR).has = true
              · have hlt' := ((Rd.has_iff _).1 hh).2
                have hcb := cur_byte hlt'
                by_cases hc : (r1.itemR).cur = 45
                · have HB := Lib.hid (isB_yes hh hc)
                  rw [hc] at hcb
                  have HH := Lib.hid hh; clear hh hc
                  go_quiet ((go_at_call 52; refine quiet_more_is (RB.drewN HI6.out _) HH.out))
                  go_wp2_with fail
                  go_meet
                  case rel => exact ⟨by rw [HB.out], _, rfl⟩
                · have HB := Lib.hid (isB_no hc)
                  have hcx : ((((r1.itemR).s[(r1.itemR).at_]'hlt').toNat : Int) == 45) = false := by rw [hcb, beq_eq_false_iff_ne]; omega
                  have HH := Lib.hid hh; clear hh hc hcb
                  go_quiet ((go_at_call 52; refine quiet_more_is (RB.drewN HI6.out _) HH.out))
                  go_wp2_with fail
                  go_meet
                  case rel => exact ⟨by rw [HB.out], _, rfl⟩
              · have hh' : (r1.itemR).has = false := by simpa using hh
                have HB := Lib.hid (isB_end (c := 45) hh')
                have HH := Lib.hid hh'; clear hh hh'
                go_quiet ((go_at_call 52; refine quiet_more_is (RB.drewN HI6.out _) HH.out))
                go_wp2_with fail
                go_meet
                case rel => exact ⟨by rw [HB.out], _, rfl⟩
            case rest =>
              obtain ⟨rfl, m7, rfl⟩ := hcut
              have HI7 := Lib.hid (RB.drewN HI6.out m7)
              have HB7 := Lib.hid (HB6.out.drewN m7)
              generalize W6.drewN m7 = w7 at HI7 HB7 ⊢
              clear HI6 HB6
              go_upto_if 89 with fail
              go_cut [7] (fun s7 wx => s7 = .int .u8 r1.rangeHi ∧ Ro wx g r1.rangeR ∧ Bx W g wx S1.has)
              case first =>
                have c1 := RB.c1 HI7.out
                have f1 := RB.fz HI7.out 1
                obtain ⟨x, hx⟩ : ∃ x, r1.itemR.isB 45 = x := ⟨_, rfl⟩
                rw [hx]
                cases x
                · have hH : r1.rangeHi = r1.itemV := by rw [Rd.rangeHi, if_neg (by rw [hx]; simp)]
                  have hR : r1.rangeR = r1.itemR := by rw [Rd.rangeR, if_neg (by rw [hx]; simp), Rd.isR, if_neg (by rw [hx]; simp)]
                  have HH := Lib.hid hH; clear hH
                  have HR := Lib.hid hR; clear hR hx
                  go_wp2_with fail
                  go_meet
                  case rel => exact ⟨by rw [HH.out], by rw [HR.out]; exact HI7.out, HB7.out⟩
                · have hH : r1.rangeHi = (r1.itemR.isR 45).itemV := by rw [Rd.rangeHi, if_pos hx]
                  have hR : r1.rangeR = if (r1.itemR.isR 45).itemV < r1.itemV then (r1.itemR.isR 45).itemR.fail 2 (r1.itemR.isR 45).at_ else (r1.itemR.isR 45).itemR := by rw [Rd.rangeR, if_pos hx]
                  have hadv : r1.itemR.isR 45 = r1.itemR.adv := by rw [Rd.isR, if_pos hx]
                  have hhas := (r1.itemR.isB_has hx).1
                  have htI := (r1.itemR_ext.trans (r1.itemR.isR_ext 45)).top htop4
                  have hsI := (r1.itemR_ext.trans (r1.itemR.isR_ext 45)).s
                  have heI : (r1.itemR.isR 45).err = 0 := by rw [Rd.isR_err]; exact ((Rd.has_iff _).1 hhas).1
                  have hI8 : Ro (w7.setCell ⟨g, 1, none⟩ (.int .i64 ((r1.itemR.at_ : Int) + 1))) g (r1.itemR.isR 45) := by rw [hadv]; exact RB.set1 HI7.out _
                  have HI8 := Lib.hid hI8; clear hI8
                  have HB8 := Lib.hid (HB7.out.rd hgl 1 (.int .i64 ((r1.itemR.at_ : Int) + 1)))
                  have hat8 : (r1.itemR.isR 45).at_ = r1.itemR.at_ + 1 := by rw [hadv]; rfl
                  have hbig : r1.itemR.at_ + 1 ≤ 4096 := by rw [← hat8]; exact Nat.le_trans htI hsz4
                  have HAt := Lib.hid hat8; clear hat8
                  have HH := Lib.hid hH; clear hH
                  have HR := Lib.hid hR; clear hR hx hadv hhas
                  have HE8 := Lib.hid heI; clear heI
                  rw [← hsI] at htI
                  have hsz8 : (r1.itemR.isR 45).s.size ≤ 4096 := by rw [hsI]; exact hsz4
                  clear hsI HI7 HB7
                  go_wp2_with fail
                  refine (ritem_calls HI8.out HE8.out hsz8 htI).mono ?_
                  rintro q W9 ⟨rfl, hI9, hO9⟩
                  have HI9 := Lib.hid hI9; clear hI9
                  have HB9 := Lib.hid (HB8.out.call hgl hO9); clear hO9 HI8 HB8
                  have c3 := RB.c3 HI9.out
                  by_cases h0 : (r1.itemR.isR 45).itemR.err = 0
                  · rw [h0] at c3
                    have H0 := Lib.hid h0; clear h0
                    by_cases hlo : (r1.itemR.isR 45).itemV < r1.itemV
                    · have hR2 := HR.out
                      rw [if_pos hlo] at hR2
                      have HR2 := Lib.hid hR2; clear hR2
                      have hd : decide ((r1.itemR.isR 45).itemV < r1.itemV) = true := by simp; omega
                      clear hlo
                      go_wp2_with fail
                      refine (rfail_calls 2 (r1.itemR.at_ + 1) HI9.out H0.out).mono ?_
                      rintro q W10 ⟨rfl, hI10, hO10⟩
                      go_wp2_with fail
                      go_meet
                      case rel => exact ⟨by rw [HH.out], by rw [HR2.out, HAt.out]; exact hI10, HB9.out.call hgl hO10⟩
                    · have hR2 := HR.out
                      rw [if_neg hlo] at hR2
                      have HR2 := Lib.hid hR2; clear hR2
                      have hd : decide ((r1.itemR.isR 45).itemV < r1.itemV) = false := by simp; omega
                      clear hlo
                      go_wp2_with fail
                      go_meet
                      case rel => exact ⟨by rw [HH.out], by rw [HR2.out]; exact HI9.out, HB9.out⟩
                  · have hR2 : r1.rangeR = (r1.itemR.isR 45).itemR := by
                      rw [HR.out]
                      split
                      · rw [Rd.fail, if_neg h0]
                      · rfl
                    have HR2 := Lib.hid hR2; clear hR2
                    have hd : (((r1.itemR.isR 45).itemR.err : Int) == 0) = false := by rw [beq_eq_false_iff_ne]; omega
                    clear h0
                    go_wp2_with fail
                    go_meet
                    case rel => exact ⟨by rw [HH.out], by rw [HR2.out]; exact HI9.out, HB9.out⟩
              case rest =>
                obtain ⟨rfl, hI11, hB11⟩ := hcut
                have HI11 := Lib.hid hI11; clear hI11
                have HB11 := Lib.hid hB11; clear hB11
                clear HI7 HB7
                have hlo := r1.itemV_lt
                have hhi := r1.rangeHi_lt
                go_wp2_with fail
                go_loopw [9] (fun c wq => ∃ k : Nat, k ≤ r1.rangeHi + 1 - r1.itemV ∧ c = .int .i64 ((r1.itemV + k : Nat) : Int) ∧ Ro wq g r1.rangeR ∧ Bx W g wq (S1.putN r1.itemV k).has) (fun c _ => r1.rangeHi + 1 - (intOf c).toNat)
                case atStart => exact ⟨0, Nat.zero_le _, rfl, HI11.out, HB11.out⟩
                case round =>
                  obtain ⟨k, hk, rfl, hI12, hB12⟩ := hrel
                  have cb := blk_cell hB12.b3 (2 + (r1.itemV + k))
                  have fb := blk_frozen hB12.b3 (2 + (r1.itemV + k))
                  have HI12 := Lib.hid hI12; clear hI12
                  have HB12 := Lib.hid hB12; clear hB12
                  by_cases hle : r1.itemV + k ≤ r1.rangeHi
                  · have hlk : r1.itemV + k < 256 := by omega
                    simp only [List.getElem?_toArray] at cb
                    rw [ncl_get 3 nilS _ _ hlk] at cb
                    go_wp2_with fail
                    go_roundw
                    case rel => exact ⟨k + 1, by omega, by go_num, RB.far HI12.out (p := ⟨W.heap.size + 1, 2 + (r1.itemV + k), none⟩) (by show W.heap.size + 1 ≠ g; omega) _, (HB12.out.put _ hlk true).congr fun c hc => (put_fun _ _ _ hlk hc).symm⟩
                    case measure => (simp [intOf] <;> omega)
                  · have hke : k = r1.rangeHi + 1 - r1.itemV := by omega
                    have hput : S1.putN r1.itemV k = S1.putRange r1.rangeLo r1.rangeHi := by rw [hke]; rfl
                    rw [hput] at HB12
                    have hsR : r1.rangeR.s = r.s := by rw [r1.rangeR_ext.s]; exact HS4.out
                    have HSR := Lib.hid hsR; clear hsR hput hke cb
                    go_wp2_with fail
                    go_roundg n
                    case measure => exact Nat.lt_succ_self n
                    case rel => exact ⟨false, r1.rangeR, S1.putRange r1.rangeLo r1.rangeHi, rfl, HI12.out, HB12.out, HSR.out, HL4.out.next HGo.out⟩
end Go.Proofs.Ytokcffkffcfolaa.Rh
