/-
  The document's Compile: the first error and its place are those of the program's; the tree.
-/
import Derived.Test.YtokcffkffcfolaaRhF
import Derived.Test.YtokcffkffcfolaaRgY
namespace Go.Proofs.Ytokcffkffcfolaa.Rh
open Go Go.RowKit Go.Proofs.Ytokcffkffcfolaa.Rg

theorem alts_all : ∀ k, AltsR k
  | 0 => alts_of 0 (pieces_of 0 (atom_of 0 (.inl rfl)))
  | k + 1 => alts_of (k + 1) (pieces_of (k + 1) (atom_of (k + 1) (.inr ⟨k, rfl, alts_all k⟩)))

theorem results_cell2 {P : Program} {fn : Func} {p u v : Tmp} {ty : TypeId} (h : fn.results = #[.cell p ty, .tmp u, .tmp v]) (tmps : Array Value) (w : World) (g : Nat) (t : TypeId) (cs : Array Value) (fr : Nat × Nat) (d : TypeDesc)
    (hp : tmps.getD p undef = .pointer (some ⟨g, 0, none⟩)) (hg : w.heap[g]? = some (.cells cs t fr))
    (hu : P.underlying ty = some d) (hd : (match d with | .struct _ | .array _ _ => true | _ => false) = true) (hi : (P.info? ty).map (·.size) = some cs.size) :
    (results fn tmps).run P w = .ok (.tuple #[.agg cs, tmps.getD u undef, tmps.getD v undef]) w := by
  have hp' : tmps[p]?.getD undef = .pointer (some ⟨g, 0, none⟩) := by simpa using hp
  simp [results, h, hp', asAddr, run_loadVar_row w g t ty cs fr d hg hu hd hi]
/-- What Compile hands back. -/
def CompPost (W : World) (s : ByteArray) (q : Ending) (W' : World) : Prop :=
  ∃ cs : List Value, q = .returned (.tuple #[.agg cs.toArray, .int .i64 (badOf s), .int .i64 (errOf s)]) ∧ NodeV W.heap.size W' (errOf s) (treeOf s) cs ∧ Below W.heap.size W W'

theorem below_row {B : Nat} {W W1 : World} (h : Below B W W1) {b : Nat} (hb : B ≤ b) (cs : Array Value) : Below B W (W1.setRow b cs) :=
  ⟨h.os, h.tape, h.output, by have := h.size; simp; omega, fun k hk => (setRow_other _ _ _ _ (by omega)).trans (h.block k hk)⟩
set_option maxRecDepth 100000 in
set_option maxHeartbeats 8000000 in
theorem rcompile_calls (s : ByteArray) (hs : s.size ≤ 16384) (W : World) : Calls Try.prog 15 #[.string s] W (CompPost W s) := by
  have hz := zeroNode
  have hne := ncl_ne 0 nilS none256
  by_cases hbig : 4096 < s.size
  · have hd : decide (4096 < s.size) = true := by simpa using hbig
    have he : errOf s = 6 := by rw [errOf, if_pos hbig]
    have hb : badOf s = 0 := by rw [badOf, if_pos hbig]
    have HE := Lib.hid he; clear he
    have HB := Lib.hid hb; clear hb
    have hst := storeNode_new W W.heap.size rfl (ncl_length 0 nilS none256) (ncl_length 0 nilS none256) (ncl_one rfl)
    go_enter Try.func15, Try.ntmps15
    go_wp2_with fail
    refine bodyPost_ret_by (results_cell2 (p := 2) (ty := 38) (u := 3) (v := 4) rfl _ _ W.heap.size 38 (ncl 0 nilS none256).toArray (0, 0) _ rfl (blk_new _ _) Try.underlying38 rfl (by rw [nodeSize]; simp [ncl_length])) rfl ?_
    refine ⟨_, ?_, NodeV.bad (ncl_length 0 nilS none256) (ncl_one rfl) (by rw [HE.out]; decide), (Below.refl _ _).alloc (Nat.le_refl _) _⟩
    rw [HE.out, HB.out]; rfl
  · have hsz : s.size ≤ 4096 := by omega
    have hd : decide (4096 < s.size) = false := by simpa using hsz
    have HBig := Lib.hid hbig; clear hbig
    go_enter Try.func15, Try.ntmps15
    go_wp2_with fail
    refine (alts_all 40 _ (W.heap.size + 1) (Rg.start s) (blk_new2 _ _ _) rfl (Nat.zero_le _) hsz (fun h => by cases h) rfl).mono ?_
    rintro q w2 ⟨cs, rfl, hN2, hI2, hO2⟩
    have hR : Rd.alts (Rd.group 40) (Rg.start s) = read s := rfl
    rw [hR] at hN2 hI2
    have hlen2 := hN2.len
    have hb2 := hO2.blk (blk_alloc (blk_new W (.cells (ncl 0 nilS none256).toArray 38)) _) (by omega)
    have hbel : Below W.heap.size W w2 := ⟨hO2.os, hO2.tape, hO2.output, by have := hO2.size; simp at this; omega, fun k hk => (hO2.block k (by simp; omega) (by omega)).trans ((Below.heap_alloc _ _ _ (by simp; omega)).trans (Below.heap_alloc _ _ _ hk))⟩
    have hwl := blk_lt hb2
    have hst := storeNode_new w2 w2.heap.size rfl (ncl_length 0 nilS none256) hlen2 hN2.one
    have hb3 := blk_alloc hb2 (.cells cs.toArray 38)
    have hI3 := hI2.alloc (.cells cs.toArray 38)
    have hl3 := blk_new w2 (.cells cs.toArray 38)
    have hN3 : NodeV (W.heap.size + 1) (w2.alloc (.cells cs.toArray 38)) (read s).err (treeOf s) cs := hN2.keep (by simp) fun b _ hlt => Below.heap_alloc _ _ _ hlt
    have hbel3 := hbel.alloc (Nat.le_of_lt hwl) (.cells cs.toArray 38)
    have HN3 := Lib.hid hN3; clear hN3 hN2
    have HI3 := Lib.hid hI3; clear hI3 hI2
    have HB3 := Lib.hid hb3; clear hb3 hb2
    have HL3 := Lib.hid hl3; clear hl3
    have HBel := Lib.hid hbel3; clear hbel3 hbel hO2 hR
    go_upto_region 5 with fail
    clear hst
    generalize w2.alloc (.cells cs.toArray 38) = w3 at HN3 HI3 HB3 HL3 HBel ⊢
    have hns := Rd.alts_nxt (Rd.group 40) (Rd.group_nxt 40) (Rg.start s)
    have hrs : (read s).s = s := hns.s
    have HRs := Lib.hid hrs; clear hrs hns
    by_cases he : (read s).err = 0
    · have hRo := HI3.out.ok he
      have c1 := RB.c1 hRo
      have c3 := RB.c3 hRo
      rw [he] at c3
      by_cases hat : (read s).at_ < s.size
      · have hE : readEnd s = (read s).fail 2 (read s).at_ := by rw [readEnd, if_pos hat]
        have hd2 : decide ((read s).at_ < s.size) = true := by simpa using hat
        have HRo := Lib.hid hRo; clear hRo
        have HEr := Lib.hid he; clear he
        have HE := Lib.hid hE; clear hE
        go_wp2_with fail
        refine (rfail_calls 2 (read s).at_ HRo.out HEr.out).mono ?_
        rintro q w4 ⟨rfl, hI4, hO4⟩
        rw [← HE.out] at hI4
        have hne2 : (readEnd s).err ≠ 0 := by rw [HE.out]; exact Rd.fail_err _ _ _ (by decide)
        have hb4 := hO4.blk HB3.out (by omega)
        have hbel4 := HBel.out.trans ⟨hO4.os, hO4.tape, hO4.output, hO4.size, fun k hk => hO4.block k (by have := blk_lt HB3.out; omega) (by omega)⟩
        have hRB : RB w4 (W.heap.size + 1) (readEnd s).s (readEnd s).at_ (readEnd s).deep (readEnd s).err (readEnd s).bad := hI4
        have c3' := (hRB).c3
        have c4' := (hRB).c4
        have hdn : (((readEnd s).err : Int) != 0) = true := by rw [bne_iff_ne]; omega
        have hEr : errOf s = (readEnd s).err := by rw [errOf, if_neg HBig.out]
        have hBd : badOf s = (readEnd s).bad := by rw [badOf, if_neg HBig.out, if_neg hne2]
        have hsc := storeNode (w := (w4).drew) hb4 (ncl_length _ _ _) (ncl_length 0 nilS none256) (ncl_one rfl)
        have hR9 := RB.row (W := (w4).drew) (p := W.heap.size) hRB (by omega) (ncl 0 nilS none256).toArray
        have k3 := hR9.c3
        have k4 := hR9.c4
        have HR9 := Lib.hid hR9; clear hR9
        have HB4 := Lib.hid hb4; clear hb4
        have HBel4 := Lib.hid hbel4; clear hbel4
        have HEr2 := Lib.hid hEr; clear hEr
        have HBd := Lib.hid hBd; clear hBd
        have HNe2 := Lib.hid hne2; clear hne2
        go_wp2_with fail
        go_region_held3 (fun w' => w'.cell? ⟨W.heap.size + 1, 4, none⟩ = some (.int .i64 ((readEnd s).bad : Int)) ∧ w'.cell? ⟨W.heap.size + 1, 3, none⟩ = some (.int .i64 ((readEnd s).err : Int))) (first | go_keep | exact ⟨k4, k3⟩) (fail)
        go_wp2_with fail
        refine bodyPost_ret_by (results_cell2 (p := 2) (ty := 38) (u := 3) (v := 4) rfl _ _ W.heap.size 38 (ncl 0 nilS none256).toArray (0, 0) _ rfl (setRow_heap _ _ _ _ _ _ HB4.out) Try.underlying38 rfl (by rw [nodeSize]; simp [ncl_length])) rfl ?_
        refine ⟨_, ?_, NodeV.bad (ncl_length 0 nilS none256) (ncl_one rfl) (by rw [HEr2.out]; exact HNe2.out), ?_⟩
        · rw [HEr2.out, HBd.out]; rfl
        · exact below_row HBel4.out.drew (Nat.le_refl _) _
      · have hE : readEnd s = read s := by rw [readEnd, if_neg hat]
        have hd2 : decide ((read s).at_ < s.size) = false := by simpa using hat
        have hEr : errOf s = 0 := by rw [errOf, if_neg HBig.out, hE]; exact he
        have hBd : badOf s = 0 := by rw [badOf, if_neg HBig.out, if_pos (by rw [hE]; exact he)]
        have hnv := HN3.out
        have hsc := storeNode HB3.out (ncl_length _ _ _) hlen2 hnv.one
        rw [he, ← hEr] at hnv
        have HNv := Lib.hid hnv; clear hnv HN3
        have HEr := Lib.hid hEr; clear hEr
        have HBd := Lib.hid hBd; clear hBd
        have HE := Lib.hid hE; clear hE
        have HEz := Lib.hid he; clear he hat hRo
        go_wp2_with fail
        refine wp_load_row 38 (.tmp 6) rfl w2.heap.size rfl 38 _ (0, 0) _ HL3.out Try.underlying38 rfl (by rw [nodeSize]; simp [hlen2]) ?_
        go_wp2_with fail
        refine bodyPost_ret_by (results_cell2 (p := 2) (ty := 38) (u := 3) (v := 4) rfl _ _ W.heap.size 38 cs.toArray (0, 0) _ rfl (setRow_heap _ _ _ _ _ _ HB3.out) Try.underlying38 rfl (by rw [nodeSize]; simp [hlen2])) rfl ?_
        refine ⟨cs, ?_, HNv.out.done (by omega) _, below_row HBel.out (Nat.le_refl _) _⟩
        rw [HEr.out, HBd.out]; rfl
    · have hE : readEnd s = read s := by
        rw [readEnd]
        split
        · rw [Rd.fail, if_neg he]
        · rfl
      have hd3 : (((read s).err : Int) == 0) = false := by rw [beq_eq_false_iff_ne]; omega
      obtain ⟨a, d, hRB, _⟩ := HI3.out
      have c3 := hRB.c3
      have hne2 : (readEnd s).err ≠ 0 := by rw [hE]; exact he
      have hRB2 : RB w3 (W.heap.size + 1) (readEnd s).s a d (readEnd s).err (readEnd s).bad := by rw [hE]; exact hRB
      have hb4 := HB3.out
      have hbel4 := HBel.out
      have HEz := Lib.hid he; clear he
      have HE := Lib.hid hE; clear hE hRB
      go_upto_region 7 with fail
      clear c3 hd3
      have c3' := (hRB2).c3
      have c4' := (hRB2).c4
      have hdn : (((readEnd s).err : Int) != 0) = true := by rw [bne_iff_ne]; omega
      have hEr : errOf s = (readEnd s).err := by rw [errOf, if_neg HBig.out]
      have hBd : badOf s = (readEnd s).bad := by rw [badOf, if_neg HBig.out, if_neg hne2]
      have hsc := storeNode (w := (w3).drew) hb4 (ncl_length _ _ _) (ncl_length 0 nilS none256) (ncl_one rfl)
      have hR9 := RB.row (W := (w3).drew) (p := W.heap.size) hRB2 (by omega) (ncl 0 nilS none256).toArray
      have k3 := hR9.c3
      have k4 := hR9.c4
      have HR9 := Lib.hid hR9; clear hR9
      have HB4 := Lib.hid hb4; clear hb4
      have HBel4 := Lib.hid hbel4; clear hbel4
      have HEr2 := Lib.hid hEr; clear hEr
      have HBd := Lib.hid hBd; clear hBd
      have HNe2 := Lib.hid hne2; clear hne2
      go_wp2_with fail
      go_region_held3 (fun w' => w'.cell? ⟨W.heap.size + 1, 4, none⟩ = some (.int .i64 ((readEnd s).bad : Int)) ∧ w'.cell? ⟨W.heap.size + 1, 3, none⟩ = some (.int .i64 ((readEnd s).err : Int))) (first | go_keep | exact ⟨k4, k3⟩) (fail)
      go_wp2_with fail
      refine bodyPost_ret_by (results_cell2 (p := 2) (ty := 38) (u := 3) (v := 4) rfl _ _ W.heap.size 38 (ncl 0 nilS none256).toArray (0, 0) _ rfl (setRow_heap _ _ _ _ _ _ HB4.out) Try.underlying38 rfl (by rw [nodeSize]; simp [ncl_length])) rfl ?_
      refine ⟨_, ?_, NodeV.bad (ncl_length 0 nilS none256) (ncl_one rfl) (by rw [HEr2.out]; exact HNe2.out), ?_⟩
      · rw [HEr2.out, HBd.out]; rfl
      · exact below_row HBel4.out.drew (Nat.le_refl _) _
end Go.Proofs.Ytokcffkffcfolaa.Rh
