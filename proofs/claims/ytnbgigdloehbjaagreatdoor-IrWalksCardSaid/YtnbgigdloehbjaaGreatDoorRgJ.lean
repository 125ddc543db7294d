/-
  The reader's methods atom and group, each by the contract of what it calls.
-/
import Derived.Test.YtnbgigdloehbjaaGreatDoorRgI
import Derived.Test.YtnbgigdloehbjaaGreatDoorRgQ
namespace Go.Proofs.YtnbgigdloehbjaaGreatDoor.Rg
open Go Go.RowKit

/-- What a method of the reader, called when a byte stands next, makes of it. -/
def Does (f : FuncId) (k : Nat) (F : Rd → Rd) (args : Rd → List Value) (next : Bool) : Prop :=
  ∀ (B : Nat) (W : World) (g : Nat) (r : Rd) (v : Value), Is B W g r v → B ≤ W.heap.size → Good r → (next = true → r.has = true) → r.deep + k = 40 →
    Calls Tryz.prog f (.pointer (some ⟨g, 0, none⟩) :: args r).toArray W fun q W' => q = .returned (.tuple #[]) ∧ (∃ v', Is B W' g (F r) v') ∧ Fr B W W'

def GroupC (k : Nat) : Prop := Does 158 k (Rd.group k) (fun _ => []) true
def AtomC (k : Nat) : Prop := Does 150 k (Rd.atom (Rd.group k)) (fun r => [.int .u8 r.cur]) true
def AltsC (k : Nat) : Prop := Does 101 k (Rd.alts (Rd.group k)) (fun _ => []) false

theorem group_zero : GroupC 0 := by
  intro B W g r v hI hB hG hh hd
  have hd' : r.deep = 40 := by omega
  have c2 := hI.c2
  have c1 := hI.c1
  rw [hd'] at c2
  have HI := Lib.hid hI; clear hI hd hd' hh
  go_enter Tryz.func158, Tryz.ntmps158
  go_wp2_with fail
  refine (fail_calls 6 r.at_ HI.out).mono ?_
  rintro q W1 ⟨rfl, hI1, hF1⟩
  have HI1 := Lib.hid hI1; clear hI1
  have HF1 := Lib.hid hF1; clear hF1
  go_wp2
  refine bodyPost_ret (results_none rfl _ _ _) rfl ?_
  exact ⟨rfl, ⟨v, HI1.out⟩, HF1.out⟩

theorem group_succ (k : Nat) (hA : AltsC k) : GroupC (k + 1) := by
  intro B W g r v hI hB hG hh hd
  have hh' := hh rfl
  obtain ⟨he, hlt⟩ := (Rd.has_iff r).1 hh'
  have hsz := hG.sz
  have c1 := hI.c1
  have c2 := hI.c2
  have f1 := hI.fz 1
  have f2 := hI.fz 2
  have hne : ((r.deep : Int) == 40) = false := by rw [beq_eq_false_iff_ne]; omega
  have hdl : r.deep ≤ 40 := by omega
  have hGo : Good r.opened := ⟨hlt, hG.sz, by have := hG.len; show r.l.length ≤ 2 * (r.at_ + 1); omega, hG.tgt⟩
  have hI1 := (hI.setAt (r.at_ + 1)).setDeep (r.deep + 1)
  have hF1 := (hI.setAt (r.at_ + 1)).frSet (hI.frSet (Fr.refl B W) 1 (.int .i64 (r.at_ + 1 : Nat))) 2 (.int .i64 (r.deep + 1 : Nat))
  have hN := Rd.alts_nxt (Rd.group k) (Rd.group_nxt k) r.opened
  have hI1' : Is B ((W.setCell ⟨g, 1, none⟩ (.int .i64 (r.at_ + 1 : Nat))).setCell ⟨g, 2, none⟩ (.int .i64 (r.deep + 1 : Nat))) g r.opened v := hI1
  have HI1 := Lib.hid hI1'; clear hI1 hI1' hI
  have HF1 := Lib.hid hF1; clear hF1
  have HN := Lib.hid hN; clear hN
  have HGo := Lib.hid hGo; clear hGo
  have HA := Lib.hid hA; clear hA
  have HE := Lib.hid he; clear he
  have HH := Lib.hid hh'; clear hh' hh
  have hdk : r.opened.deep + k = 40 := by show r.deep + 1 + k = 40; omega
  have HD := Lib.hid hdk; clear hdk hd hG
  have hsd : W.heap.size ≤ ((W.setCell ⟨g, 1, none⟩ (.int .i64 (r.at_ + 1 : Nat))).setCell ⟨g, 2, none⟩ (.int .i64 (r.deep + 1 : Nat))).heap.size := HF1.out.below.size
  have HSD := Lib.hid (Nat.le_trans hB hsd); clear hsd
  go_enter Tryz.func158, Tryz.ntmps158
  go_wp2_with fail
  refine (HA.out B _ g r.opened v HI1.out HSD.out HGo.out (by simp) HD.out).mono ?_
  rintro q W1 ⟨rfl, ⟨v1, hI2⟩, hF2⟩
  have hde : (Rd.alts (Rd.group k) r.opened).deep = r.deep + 1 := HN.out.deep
  have c2' := hI2.c2
  rw [hde] at c2'
  have f2' := hI2.fz 2
  have hI3 : Is B (W1.setCell ⟨g, 2, none⟩ (.int .i64 r.deep)) g ((Rd.alts (Rd.group k) r.opened).withDeep r.deep) v1 := hI2.setDeep r.deep
  have hF3 := hI2.frSet (HF1.out.trans hF2) 2 (.int .i64 r.deep)
  have HI3 := Lib.hid hI3; clear hI3 hI2 hF2 hde
  have HF3 := Lib.hid hF3; clear hF3
  go_wp2_with fail
  refine (is_calls 41 HI3.out).mono ?_
  rintro q W2 ⟨rfl, hI4, hF4⟩
  by_cases hp : ((Rd.alts (Rd.group k) r.opened).withDeep r.deep).isB 41 = true
  · have hg : Rd.group (k + 1) r = ((Rd.alts (Rd.group k) r.opened).withDeep r.deep).isR 41 := if_pos hp
    have HP := Lib.hid hp; clear hp
    have HG := Lib.hid hg; clear hg
    rw [HP.out]
    have HI4 := Lib.hid hI4; clear hI4
    have HF4 := Lib.hid hF4; clear hF4
    go_wp2
    go_end0
    refine ⟨rfl, ⟨v1, ?_⟩, HF3.out.trans HF4.out⟩
    rw [HG.out]; exact HI4.out
  · have hg : Rd.group (k + 1) r = ((Rd.alts (Rd.group k) r.opened).withDeep r.deep).fail 2 (Rd.alts (Rd.group k) r.opened).at_ := if_neg hp
    have hp' : ((Rd.alts (Rd.group k) r.opened).withDeep r.deep).isB 41 = false := by simpa using hp
    have hr : ((Rd.alts (Rd.group k) r.opened).withDeep r.deep).isR 41 = (Rd.alts (Rd.group k) r.opened).withDeep r.deep := if_neg hp
    have HP := Lib.hid hp'; clear hp hp'
    have HG := Lib.hid hg; clear hg
    rw [HP.out]
    rw [hr] at hI4
    clear hr
    have c1' : W2.cell? ⟨g, 1, none⟩ = some (.int .i64 (Rd.alts (Rd.group k) r.opened).at_) := hI4.c1
    have HI4 := Lib.hid hI4; clear hI4
    have HF4 := Lib.hid hF4; clear hF4
    go_wp2_with fail
    refine (fail_calls 2 (Rd.alts (Rd.group k) r.opened).at_ HI4.out).mono ?_
    rintro q W3 ⟨rfl, hI5, hF5⟩
    have HI5 := Lib.hid hI5; clear hI5
    have HF5 := Lib.hid hF5; clear hF5
    go_wp2
    go_end0
    refine ⟨rfl, ⟨v1, ?_⟩, (HF3.out.trans HF4.out).trans HF5.out⟩
    rw [HG.out]; exact HI5.out

set_option maxRecDepth 100000 in
set_option maxHeartbeats 1600000 in
theorem atom_of (k : Nat) (hGr : GroupC k) : AtomC k := by
  intro B W g r v hI hB hG hh hd
  have hh' := hh rfl
  obtain ⟨he, hlt⟩ := (Rd.has_iff r).1 hh'
  have hsz := hG.sz
  have hlen : r.l.length ≤ 20000 := by have := hG.len; have := hG.top; omega
  have hcu := cur_lt r
  have hgl := hI.lt
  have c1 := hI.c1
  have f1 : ∀ o, (W.alloc o).frozen? ⟨g, 1, none⟩ = false := fun o => (hI.alloc o).fz 1
  have hnew : ∀ {W1 : World}, W1.heap.size = W.heap.size → IsBs (W1.alloc (.cells #[.int .u64 0, .int .u64 0, .int .u64 0, .int .u64 0] 143)) W.heap.size .zero := fun {W1} h1 => by
    refine ⟨?_, zero_ok⟩
    have := blk_new W1 (.cells #[.int .u64 0, .int .u64 0, .int .u64 0, .int .u64 0] 143)
    rw [h1] at this
    exact this
  have HNew := Lib.hid (hnew (W1 := W) rfl); clear hnew
  have HI1 := Lib.hid (hI.alloc (.cells #[.int .u64 0, .int .u64 0, .int .u64 0, .int .u64 0] 143))
  have HF1 := Lib.hid ((Fr.refl B W).alloc hB (.cells #[.int .u64 0, .int .u64 0, .int .u64 0, .int .u64 0] 143))
  have hB1 : B ≤ (W.alloc (.cells #[.int .u64 0, .int .u64 0, .int .u64 0, .int .u64 0] 143)).heap.size := Nat.le_trans hB HF1.out.below.size
  have HB1 := Lib.hid hB1; clear hB1
  have HI0 := Lib.hid hI; clear hI
  have HGr := Lib.hid hGr; clear hGr
  have HG := Lib.hid hG; clear hG
  have HE := Lib.hid he; clear he
  have HD := Lib.hid hd; clear hd
  by_cases h1 : r.cur = 91
  · have hm : r.atom (Rd.group k) = r.class_ := if_pos h1
    have HM := Lib.hid hm; clear hm
    have H1 := Lib.hid h1; clear h1
    clear hcu f1
    go_enter Tryz.func150, Tryz.ntmps150
    rw [H1.out]
    go_wp2_with fail
    refine (class_calls HI1.out HB1.out hh' hlen).mono ?_
    rintro q W2 ⟨rfl, hI2, hF2⟩
    have HI2 := Lib.hid hI2; clear hI2
    have HF2 := Lib.hid hF2; clear hF2
    go_wp2
    refine bodyPost_ret (results_none rfl _ _ _) rfl ?_
    refine ⟨rfl, ?_, HF1.out.trans HF2.out⟩
    rw [HM.out]; exact HI2.out
  by_cases h2 : r.cur = 40
  · have hm : r.atom (Rd.group k) = Rd.group k r := by rw [Rd.atom, if_neg h1, if_pos h2]
    have HM := Lib.hid hm; clear hm
    have H2 := Lib.hid h2; clear h2
    clear hcu f1 h1
    go_enter Tryz.func150, Tryz.ntmps150
    rw [H2.out]
    go_wp2_with fail
    refine (HGr.out B _ g r v HI1.out HB1.out HG.out (fun _ => hh') HD.out).mono ?_
    rintro q W2 ⟨rfl, hI2, hF2⟩
    have HI2 := Lib.hid hI2; clear hI2
    have HF2 := Lib.hid hF2; clear hF2
    go_wp2
    refine bodyPost_ret (results_none rfl _ _ _) rfl ?_
    refine ⟨rfl, ?_, HF1.out.trans HF2.out⟩
    rw [HM.out]; exact HI2.out
  have b1 : ((r.cur : Int) == 91) = false := by rw [beq_eq_false_iff_ne]; omega
  have b2 : ((r.cur : Int) == 40) = false := by rw [beq_eq_false_iff_ne]; omega
  by_cases h3 : r.cur = 46
  · have hm : r.atom (Rd.group k) = r.adv.put ⟨0, .all, 0, 0⟩ := by rw [Rd.atom, if_neg h1, if_neg h2, if_pos h3]
    have HM := Lib.hid hm; clear hm
    have H3 := Lib.hid h3; clear h3
    clear hcu h1 h2 b1 b2
    go_enter Tryz.func150, Tryz.ntmps150
    rw [H3.out]
    have HI3 := Lib.hid ((HI0.out.setAt (r.at_ + 1)).alloc (.cells #[.int .u64 18446744073709551615, .int .u64 18446744073709551615, .int .u64 18446744073709551615, .int .u64 18446744073709551615] 143))
    have HF3 := Lib.hid ((HI0.out.frSet (Fr.refl B W) 1 (.int .i64 (r.at_ + 1 : Nat))).alloc hB (.cells #[.int .u64 18446744073709551615, .int .u64 18446744073709551615, .int .u64 18446744073709551615, .int .u64 18446744073709551615] 143))
    have hBw := Nat.le_trans hB HF3.out.below.size
    have HBw := Lib.hid hBw; clear hBw
    go_wp2_with fail
    refine (put_calls ⟨0, .all, 0, 0⟩ HI3.out HBw.out hlen).mono ?_
    rintro q W9 ⟨rfl, hI9, hF9⟩
    have HI9 := Lib.hid hI9; clear hI9
    have HF9 := Lib.hid hF9; clear hF9
    go_wp2
    go_end0
    refine ⟨rfl, ?_, HF3.out.trans HF9.out⟩
    rw [HM.out]; exact HI9.out
  have b3 : ((r.cur : Int) == 46) = false := by rw [beq_eq_false_iff_ne]; omega
  by_cases h4 : r.cur = 92
  · have hm : r.atom (Rd.group k) = (r.escR Rd.behind).put ⟨0, Bs.zero.put (r.escV Rd.behind), 0, 0⟩ := by rw [Rd.atom, if_neg h1, if_neg h2, if_neg h3, if_pos h4]
    have hV : r.escV Rd.behind < 256 := by
      unfold Rd.escV
      split
      · exact cur_lt _
      · omega
    have hl : (r.escR Rd.behind).l = r.l := (Rd.escR_ext r _ hh').l
    have HM := Lib.hid hm; clear hm
    have H4 := Lib.hid h4; clear h4
    have HL := Lib.hid hl; clear hl
    clear hcu h1 h2 h3 b1 b2 b3 f1
    go_enter Tryz.func150, Tryz.ntmps150
    rw [H4.out]
    go_wp2_with fail
    refine (escaped_calls _ Rd.behind rfl HI1.out hlt).mono ?_
    rintro q W2 ⟨rfl, hI2, hF2⟩
    have HI2 := Lib.hid hI2; clear hI2
    have HF2 := Lib.hid hF2; clear hF2
    have hS2 := HNew.out.fr HF2.out
    go_wp2_with fail
    refine (setput_calls W.heap.size (r.escV Rd.behind) hV hS2).mono ?_
    rintro q W3 ⟨rfl, hS3, hW3⟩
    have HI3 := Lib.hid (show Is B W3 g (r.escR Rd.behind) v by rw [hW3]; exact (HI2.out.far (p := ⟨W.heap.size, (r.escV Rd.behind) / 64, none⟩) hS2.1 (by decide) (by decide) _).drew)
    have HF3 := Lib.hid (show Fr B W W3 by rw [hW3]; exact ((HF1.out.trans HF2.out).far hB (p := ⟨W.heap.size, (r.escV Rd.behind) / 64, none⟩) (Nat.le_refl _) _).drew)
    clear hW3 hS2
    have hlen : (r.escR Rd.behind).l.length ≤ 20000 := by rw [HL.out]; exact hlen
    have hb := class_end hS3
    have cb0 := blk_cell hb 0
    have cb1 := blk_cell hb 1
    have cb2 := blk_cell hb 2
    have cb3 := blk_cell hb 3
    simp only [List.getElem?_toArray, List.getElem?_cons_zero, List.getElem?_cons_succ] at cb0 cb1 cb2 cb3
    clear hb
    have hBw := Nat.le_trans hB HF3.out.below.size
    clear hS3
    go_wp2_with fail
    refine (put_calls ⟨0, Bs.zero.put (r.escV Rd.behind), 0, 0⟩ HI3.out hBw hlen).mono ?_
    rintro q W9 ⟨rfl, hI9, hF9⟩
    have HI9 := Lib.hid hI9; clear hI9
    have HF9 := Lib.hid hF9; clear hF9
    go_wp2
    go_end0
    refine ⟨rfl, ?_, HF3.out.trans HF9.out⟩
    rw [HM.out]; exact HI9.out
  · have b4 : ((r.cur : Int) == 92) = false := by rw [beq_eq_false_iff_ne]; omega
    have hm : r.atom (Rd.group k) = r.adv.put ⟨0, Bs.zero.put r.cur, 0, 0⟩ := by rw [Rd.atom, if_neg h1, if_neg h2, if_neg h3, if_neg h4]
    have HM := Lib.hid hm; clear hm
    clear h1 h2 h3 h4 f1
    go_enter Tryz.func150, Tryz.ntmps150
    go_wp2_with fail
    refine (setput_calls W.heap.size r.cur hcu HNew.out).mono ?_
    rintro q W3 ⟨rfl, hS3, hW3⟩
    have hI3 := (show Is B W3 g r v by rw [hW3]; exact (HI1.out.far (p := ⟨W.heap.size, r.cur / 64, none⟩) HNew.out.1 (by decide) (by decide) _).drew)
    have hF3 := (show Fr B W W3 by rw [hW3]; exact (HF1.out.far hB (p := ⟨W.heap.size, r.cur / 64, none⟩) (Nat.le_refl _) _).drew)
    clear hW3
    have c1' := hI3.c1
    have f1' := hI3.fz 1
    have hne : W.heap.size ≠ g := by omega
    have hS4 : IsBs (W3.setCell ⟨g, 1, none⟩ (.int .i64 (r.at_ + 1 : Nat))) W.heap.size (Bs.zero.put r.cur) := ⟨blk_far (p := ⟨g, 1, none⟩) hS3.1 hne _, hS3.2⟩
    have HI3 := Lib.hid (hI3.setAt (r.at_ + 1))
    have HF3 := Lib.hid (hI3.frSet hF3 1 (.int .i64 (r.at_ + 1 : Nat)))
    clear hI3 hF3
    have hb := class_end hS3
    have cb0 := blk_cell hb 0
    have cb1 := blk_cell hb 1
    have cb2 := blk_cell hb 2
    have cb3 := blk_cell hb 3
    simp only [List.getElem?_toArray, List.getElem?_cons_zero, List.getElem?_cons_succ] at cb0 cb1 cb2 cb3
    clear hb hS3 hS4
    have hBw := Nat.le_trans hB HF3.out.below.size
    have HBw := Lib.hid hBw; clear hBw
    go_wp2_with fail
    refine (put_calls ⟨0, Bs.zero.put r.cur, 0, 0⟩ HI3.out HBw.out hlen).mono ?_
    rintro q W9 ⟨rfl, hI9, hF9⟩
    have HI9 := Lib.hid hI9; clear hI9
    have HF9 := Lib.hid hF9; clear hF9
    go_wp2
    go_end0
    refine ⟨rfl, ?_, HF3.out.trans HF9.out⟩
    rw [HM.out]; exact HI9.out
end Go.Proofs.YtnbgigdloehbjaaGreatDoor.Rg
