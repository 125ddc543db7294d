/-
  The reader of queries: a call's brackets, with one argument.
-/
import Derived.Test.YtjddnchenhnemaaGreatDoorPsG
namespace Go.Proofs.YtjddnchenhnemaaGreatDoor.Ps
open Go Go.RowKit Go.Proofs.YtjddnchenhnemaaGreatDoor.QT Go.Proofs.YtjddnchenhnemaaGreatDoor.Rg Go.Proofs.YtjddnchenhnemaaGreatDoor.Ma Go.Proofs.YtjddnchenhnemaaGreatDoor.Ir Go.Proofs.YtjddnchenhnemaaGreatDoor.Pm Go.Proofs.YtjddnchenhnemaaGreatDoor.Le
set_option maxHeartbeats 8000000
set_option maxRecDepth 100000
theorem Only2.of {g l : Nat} {W W' : World} (h : Only g W W') : Only2 g l W W' := ⟨h.os, h.tape, h.output, h.size, fun k hk hg _ => h.block k hk hg⟩
theorem Only2.trans {g l : Nat} {W W1 W2 : World} (h : Only2 g l W W1) (k : Only2 g l W1 W2) : Only2 g l W W2 :=
  ⟨k.os.trans h.os, k.tape.trans h.tape, k.output.trans h.output, Nat.le_trans h.size k.size, fun i hi hg hl => (k.block i (Nat.lt_of_lt_of_le hi h.size) hg hl).trans (h.block i hi hg hl)⟩
theorem held_from {n : Xn} {W W1 : World} {a b g : Nat} {c : List Value} (h : n.Held W (From a) c) (hg : g < a) (hba : b ≤ a) (ho : Only g W W1) : n.Held W1 (From b) c :=
  Xn.Held.keep (fun k hk hlt => ⟨ho.block k hlt (by have : a ≤ k := hk; omega), Nat.le_trans hba hk⟩) n h
theorem row1_calls {E : Env} {n : Xn} {p j d lb pb : Nat} {W : World} (s1 s2 : ByteArray) (hP : PS E W p d) (hl : W.heap[lb]? = some (.cells #[.slice none 0 0] 40 (0, 0))) (hp : W.heap[pb]? = some (.cells #[.pointer (some ⟨E.g, 0, none⟩)] 62 (0, 0)))
    (h1 : isB (E.tk p) s1 = true) (h2 : isB (E.tk (p + 1)) s2 = false) (h3 : isB (E.tk j) s2 = true)
    (hQ : ∀ W, PS E W (p + 1) d → Calls Tryz.prog 23 #[.pointer (some ⟨E.g, 0, none⟩)] W (ReadsTo E n j d W)) :
    Calls Tryz.prog 111 #[.pointer (some ⟨E.g, 0, none⟩), .string s1, .string s2, .func (.func 140) #[] #[.pointer (some ⟨lb, 0, none⟩), .pointer (some ⟨pb, 0, none⟩)]] W (KidPost E n (j + 1) d lb W) := by
  have hlg : lb ≠ E.g := by intro e; have := hP.box; rw [← e, hl] at this; simp at this
  have hpg : pb ≠ E.g := by intro e; have := hP.box; rw [← e, hp] at this; simp at this
  have hpl : pb ≠ lb := by intro e; rw [e, hl] at hp; simp at hp
  have HLg := Lib.hid hlg; have HPg := Lib.hid hpg; have HPl := Lib.hid hpl
  have HL := Lib.hid hl; have HPb := Lib.hid hp; have HQ := Lib.hid hQ; have HPS := Lib.hid hP
  have H1 := Lib.hid h1; have H2 := Lib.hid h2; have H3 := Lib.hid h3
  clear hlg hpg hpl hl hp hQ hP h1 h2 h3
  go_enter Tryz.func111, Tryz.ntmps111
  go_wp2_with fail
  refine wp_scope_laps 2 ?_
  rw [laps_succ]
  go_wp2_with fail
  (with_reducible refine (want_calls HPS.out s1 H1.out).mono ?_)
  rintro e W1 ⟨rfl, hP1, hO1⟩
  have c5 := hP1.cells.2.2.2.2.2.1
  have HP1 := Lib.hid hP1; have HO1 := Lib.hid hO1
  clear hP1 hO1
  go_wp2_with fail
  go_step3
  go_wp2_with fail
  (with_reducible refine (is_calls HP1.out s2 false H2.out).mono ?_)
  rintro e W2 ⟨rfl, hb2⟩
  have hP2 := HP1.out.below hb2
  have hO2 := HO1.out.below hb2
  have hl2 := (hO2.block lb (blk_lt HL.out) HLg.out).trans HL.out
  have hp2 := (hO2.block pb (blk_lt HPb.out) HPg.out).trans HPb.out
  have HK := Lib.hid (kid_calls hP2 hl2 hp2 HQ.out)
  have HO2 := Lib.hid hO2
  clear hl2 hp2 hP2 hO2 hb2 c5
  go_wp2_with fail
  (with_reducible refine HK.out.mono ?_)
  rintro e W3 ⟨rfl, hP3, hO3, gg, cap, c, hl3, hgg, hr3, hn3⟩
  have c5 := hP3.cells.2.2.2.2.2.1
  have HP3 := Lib.hid hP3; have HO3 := Lib.hid hO3; have HL3 := Lib.hid hl3; have HGG := Lib.hid hgg; have HR3 := Lib.hid hr3; have HN3 := Lib.hid hn3
  clear hP3 hO3 hl3 hgg hr3 hn3
  go_wp2_with fail
  go_step3
  try rw [thenGoto]
  refine lap_goto rfl ?_
  rw [laps_succ]
  go_wp2_with fail
  (with_reducible refine (is_calls HP3.out s2 true H3.out).mono ?_)
  rintro e W4 ⟨rfl, hb4⟩
  have HP4 := Lib.hid (HP3.out.below hb4)
  have HB4 := Lib.hid hb4
  clear hb4 c5
  go_wp2_with fail
  (with_reducible refine (want_calls HP4.out s2 H3.out).mono ?_)
  rintro e W5 ⟨rfl, hP5, hO5⟩
  have HP5 := Lib.hid hP5; have HO5 := Lib.hid ((Only.of HB4.out).trans hO5)
  clear hP5 hO5
  go_wp2_with fail
  try rw [lap_ret]
  go_end0
  have hgn : E.g < W.heap.size := HPS.out.lt
  have hW2 := HO2.out.size
  refine ⟨rfl, HP5.out, ((Only2.of HO2.out).trans HO3.out).trans (Only2.of HO5.out), gg, cap, c, ?_, Nat.le_trans hW2 HGG.out, ?_, ?_⟩
  · exact (HO5.out.block lb (blk_lt HL3.out) HLg.out).trans HL3.out
  · exact range_keep HR3.out fun h => HO5.out.block _ h (by have := HGG.out; omega)
  · exact held_from HN3.out (by omega) hW2 HO5.out
/-- A call's arguments come back: one. -/
def KidsPost (E : Env) (n : Xn) (j d : Nat) (W : World) (e : Ending) (W' : World) : Prop := ∃ v ls, e = .returned v ∧ PS E W' j d ∧ Only E.g W W' ∧ (Xk.snoc .nil n).Held W' (From W.heap.size) ls ∧ Row W' (From W.heap.size) v 1 17 ls
theorem kids_calls {E : Env} {n : Xn} {p j d : Nat} {W : World} (hP : PS E W p d) (hd : d < 40)
    (h1 : isB (E.tk p) ⟨#[40]⟩ = true) (h2 : isB (E.tk (p + 1)) ⟨#[41]⟩ = false) (h3 : isB (E.tk j) ⟨#[41]⟩ = true)
    (hQ : ∀ W, PS E W (p + 1) (d + 1) → Calls Tryz.prog 23 #[.pointer (some ⟨E.g, 0, none⟩)] W (ReadsTo E n j (d + 1) W)) :
    Calls Tryz.prog 130 #[.pointer (some ⟨E.g, 0, none⟩)] W (KidsPost E n (j + 1) d W) := by
  have H1 := Lib.hid h1; have H2 := Lib.hid h2; have H3 := Lib.hid h3; have HQ := Lib.hid hQ
  obtain ⟨B0, hB0⟩ : ∃ B0, B0 = (W.alloc (.cells #[.pointer (some ⟨E.g, 0, none⟩)] 62)).alloc (.cells #[.slice none 0 0] 40) := ⟨_, rfl⟩
  have hb0 : Below W.heap.size W B0 := by rw [hB0]; exact ((Below.refl _ _).alloc (Nat.le_refl _) _).alloc (by simp) _
  have hpb : B0.heap[W.heap.size]? = some (.cells #[.pointer (some ⟨E.g, 0, none⟩)] 62 (0, 0)) := by rw [hB0]; exact blk_alloc (blk_new W _) _
  have hlb : B0.heap[W.heap.size + 1]? = some (.cells #[.slice none 0 0] 40 (0, 0)) := by rw [hB0]; exact blk_new2 W _ _
  have hps : PS E B0 p d := hP.below hb0
  have hgW := hP.lt
  have hpc : B0.cell? ⟨W.heap.size, 0, none⟩ = some (.pointer (some ⟨E.g, 0, none⟩)) := blk_cell hpb 0
  have hx : (W.alloc (.cells #[.pointer (some ⟨E.g, 0, none⟩)] 62)).alloc (.cells #[.slice none 0 0] 40) = B0 := hB0.symm
  have HB0 := Lib.hid hb0; have HPB := Lib.hid hpb; have HLB := Lib.hid hlb; have HPS := Lib.hid hps; have HPW := Lib.hid hP; have HGW := Lib.hid hgW
  clear hB0 hb0 hpb hlb hps hP h1 h2 h3 hQ hgW
  go_enter Tryz.func130, Tryz.ntmps130
  go_wp2_with fail
  clear hx
  refine wp_region_held_drew (S := fun w => w.cell? ⟨W.heap.size, 0, none⟩ = some (.pointer (some ⟨E.g, 0, none⟩))) (by kernel_rfl) hpc (fun hHeld => ?_)
  refine wpAnyH_take (i := 0) (v := .pointer (some ⟨E.g, 0, none⟩)) rfl (by kernel_rfl) (by kernel_rfl) (by kernel_rfl) (fun _ _ _ h => h) (Or.inl ⟨by rfl, fun w hSw => by go_simp⟩) hHeld ?_
  try simp only [Act.put, List.getElem_toArray, List.getElem_cons_zero, List.getElem_cons_succ, List.setIfInBounds_toArray, List.set_cons_zero, List.set_cons_succ]
  refine wpAnyH_take (i := 1) (v := .pointer (some ⟨E.g, 0, none⟩)) rfl (by kernel_rfl) (by kernel_rfl) (by kernel_rfl) (fun _ _ _ h => h) (Or.inl ⟨by rfl, fun w hSw => by go_simp⟩) hHeld ?_
  try simp only [Act.put, List.getElem_toArray, List.getElem_cons_zero, List.getElem_cons_succ, List.setIfInBounds_toArray, List.set_cons_zero, List.set_cons_succ]
  refine wpAnyH_ready (rs := [2]) (by kernel_rfl) (by simp) (AllReadyH.cons rfl (fun K hK => ?_) AllReadyH.nil)
  rw [if_pos (by rfl)]
  go_simp
  go_at_call 25
  refine (place_calls (HPS.out.below (Below.refl _ _).drew)).mono ?_
  rintro q W1 ⟨rfl, hb1⟩
  have hP1 := (HPS.out.below (Below.refl _ _).drew).below hb1
  have hB1 : Below B0.heap.size B0 W1 := (Below.refl _ _).drew.trans hb1
  refine hK.out _ _ ((hB1.cell (p := ⟨W.heap.size, 0, none⟩) (blk_lt HPB.out)).trans hpc) (fun hHeld => ?_)
  clear hK K hb1
  have HP1 := Lib.hid hP1; have HB1 := Lib.hid hB1; clear hP1 hB1
  try simp only [Act.put, List.getElem_toArray, List.getElem_cons_zero, List.getElem_cons_succ, List.setIfInBounds_toArray, List.set_cons_zero, List.set_cons_succ]
  refine wpAnyH_ready (rs := [3]) (by kernel_rfl) (by simp) (AllReadyH.cons rfl (fun K hK => ?_) AllReadyH.nil)
  rw [if_pos (by rfl)]
  go_simp
  go_at_call 86
  refine (open_calls HP1.out _ hd).mono ?_
  rintro q W2 ⟨rfl, hP2, hO2⟩
  have hO2' : Only E.g B0 W2 := (Only.of HB1.out).trans hO2
  have hpb2 := (hO2'.block _ (blk_lt HPB.out) (by have := HGW.out; omega)).trans HPB.out
  have hlb2 := (hO2'.block _ (blk_lt HLB.out) (by have := HGW.out; omega)).trans HLB.out
  refine hK.out _ _ (blk_cell hpb2 0) (fun hHeld => ?_)
  clear hK K hO2
  refine wpAnyH_done (by kernel_rfl) ?_ _
  have HR := Lib.hid (row1_calls ⟨#[40]⟩ ⟨#[41]⟩ hP2 hlb2 hpb2 H1.out H2.out H3.out HQ.out)
  have HO2 := Lib.hid hO2'
  clear hP2 hpb2 hlb2 hO2' hpc
  go_wp2_with fail
  (with_reducible refine HR.out.mono ?_)
  rintro e W3 ⟨rfl, hP3, hO3, gg, cap, c, hl3, hgg, hr3, hn3⟩
  have c4 := hP3.cells.2.2.2.2.1
  have f4 := blk_frozen hP3.box 4
  have hlt2 := HO2.out.size
  have hltp := blk_lt HPB.out
  have hpb3 := (hO3.block W.heap.size (by omega) (by have := HGW.out; omega) (by omega)).trans ((HO2.out.block _ (blk_lt HPB.out) (by have := HGW.out; omega)).trans HPB.out)
  have hpc3 := blk_cell hpb3 0
  have hlc3 := blk_cell hl3 0
  have hne : ¬ W.heap.size + 1 = E.g := by have := HGW.out; omega
  have hne2 : ¬ E.g = W.heap.size + 1 := by have := HGW.out; omega
  have hdd : IntKind.i64.wrap (((d + 1 : Nat) : Int) - 1) = (d : Int) := by rw [show ((d + 1 : Nat) : Int) - 1 = (d : Int) by omega]; exact IntWalk.i64_in _ (by omega)
  have HP3 := Lib.hid hP3; have HO3 := Lib.hid hO3; have HGG := Lib.hid hgg; have HR3 := Lib.hid hr3; have HN3 := Lib.hid hn3
  clear hP3 hO3 hl3 hgg hr3 hn3 hpb3 hHeld
  go_wp2_with fail
  go_ret
  have s0 := HB0.out.size
  have hk4 : ∀ k, k ≠ E.g → (W3.setCell ⟨E.g, 4, none⟩ (.int .i64 (d : Int))).heap[k]? = W3.heap[k]? := fun k hk => Below.heap_setCell _ ⟨E.g, 4, none⟩ _ k hk
  have hge : W.heap.size ≤ gg := Nat.le_trans (Nat.le_trans s0 hlt2) HGG.out
  have hsz3 := HO3.out.size
  have hgW := HGW.out
  refine ⟨_, c, rfl, HP3.out.sink (by omega), ⟨HO3.out.os.trans (HO2.out.os.trans HB0.out.os), HO3.out.tape.trans (HO2.out.tape.trans HB0.out.tape), HO3.out.output.trans (HO2.out.output.trans HB0.out.output), by simp [World.setCell]; omega, fun k hk hg => ?_⟩, ?_, ?_⟩
  · exact (hk4 k hg).trans ((HO3.out.block k (by omega) hg (by omega)).trans ((HO2.out.block k (by omega) hg).trans (HB0.out.block k hk)))
  · rw [Xk.Held]
    exact ⟨[], c, rfl, HN3.out.length, rfl, Xn.Held.keep (fun k hk hlt => ⟨hk4 k (by have : W2.heap.size ≤ k := hk; omega), Nat.le_trans (Nat.le_trans s0 hlt2) hk⟩) n HN3.out⟩
  · exact ⟨HN3.out.length, _, cap, rfl, fun _ => ⟨gg, 0, hge, rfl, range_keep HR3.out fun _ => hk4 gg (by omega)⟩⟩
end Go.Proofs.YtjddnchenhnemaaGreatDoor.Ps
