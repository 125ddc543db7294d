/-
  RegexMatches: any text as a pattern: where it is none; any texts: whether it matches them, whole. The walk.
-/
import Derived.Test.YtokcffkffcfolaaRjK
import Derived.Test.YtokcffkffcfolaaRhG
import Derived.Deep.RegionHeld3
namespace Go.Proofs.Ytokcffkffcfolaa.Rh
open Go Go.RowKit Go.Proofs.Ytokcffkffcfolaa.Rg

/-- The document's program of a pattern. -/
theorem tree_told {s : ByteArray} (h0 : errOf s = 0) : ∃ P : List Inst, (treeOf s).re.code 0 ++ [⟨3, .zero, 0, 0⟩] = P ∧ WF P ∧ P.length ≤ 20000 ∧ ∀ b : ByteArray, matchG P b.data.toList = matches_ s b := by
  obtain ⟨hs, e, hG, hp⟩ := comp_sound h0
  have hl := progOf_length s hs
  have ht := tree_prog hG
  have hP : (treeOf s).re.code 0 ++ [⟨3, .zero, 0, 0⟩] = e.prog := by rw [ht 0]; rfl
  have hlen : e.prog.length = (progOf s).length := by rw [← hp, List.length_map]
  refine ⟨e.prog, hP, prog_wf e hG.ok, by omega, fun b => ?_⟩
  rw [Bool.eq_iff_iff, prog_match e hG.ok, matches_, (comp_match hG hp).2]
theorem bad_zero {s : ByteArray} (h : errOf s = 0) : badOf s = 0 := by
  unfold badOf errOf at *
  split
  · rfl
  · rename_i h1
    rw [if_neg h1] at h
    rw [if_pos h]
/-- A slice of texts that came in. -/
def InS (W : World) (v : Value) (l : List ByteArray) : Prop :=
  (∃ c, v = .slice none 0 c ∧ l = []) ∨ ∃ (a : Addr) (cap : Nat), v = .slice (some a) l.length cap ∧ ∀ i (h : i < l.length), W.cell? (a.add i) = some (.string (l[i]'h))
/-- What the law holds in its loop: the program's pattern, the document's. -/
structure MS (W w : World) (p : Nat) (s : ByteArray) (Bn : Nat) (cs : List Value) : Prop where
  made : Made w p s
  box : w.heap[Bn]? = some (.cells cs.toArray 38 (0, 0))
  held : Held w (fun b => b < w.heap.size) (treeOf s) cs
  bel : Below W.heap.size W w
section
variable {W w w1 : World} {p : Nat} {s : ByteArray} {Bn : Nat} {cs : List Value}
theorem MS.step (h : MS W w p s Bn cs) (hb : Below w.heap.size w w1) : MS W w1 p s Bn cs :=
  ⟨h.made.below hb, (hb.block Bn (blk_lt h.box)).trans h.box, h.held.keep fun b hlt _ => ⟨hb.block b hlt, Nat.lt_of_lt_of_le hlt hb.size⟩, h.bel.trans (hb.mono h.bel.size)⟩
theorem MS.drew (h : MS W w p s Bn cs) : MS W w.drew p s Bn cs := h.step (Below.refl _ _).drew
theorem MS.range (h : MS W w p s Bn cs) : w.rangeAt Bn 0 cs := fun j v hv => by
  rw [Nat.zero_add, blk_cell h.box j, List.getElem?_toArray]; exact hv
theorem ms_keep {a : Addr} {b : ByteArray} (h : w.rangeAt Bn 0 cs ∧ w.cell? a = some (.string b) ∧ MS W w p s Bn cs) (hb : Below w.heap.size w w1) : w1.rangeAt Bn 0 cs ∧ w1.cell? a = some (.string b) ∧ MS W w1 p s Bn cs :=
  ⟨(h.2.2.step hb).range, by rw [hb.cell (World.block_lt_of_cell? w _ h.2.1)]; exact h.2.1, h.2.2.step hb⟩
theorem ms_drew {a : Addr} {b : ByteArray} (h : w.rangeAt Bn 0 cs ∧ w.cell? a = some (.string b) ∧ MS W w p s Bn cs) : w.drew.rangeAt Bn 0 cs ∧ w.drew.cell? a = some (.string b) ∧ MS W w.drew p s Bn cs :=
  ms_keep h (Below.refl _ _).drew
theorem MS.matches (h : MS W w p s Bn cs) {b : ByteArray} {v : Bool} (hv : matches_ s b = v) (hb : b.size ≤ 300) :
    Calls Try.prog 13 #[.pointer (some ⟨p, 0, none⟩), .string b] w fun e w' => e = .returned (.bool v) ∧ Below w.heap.size w w' :=
  h.made.match_calls hv (by omega)
theorem MS.rmatches (h : MS W w p s Bn cs) (h0 : errOf s = 0) {b : ByteArray} {v : Bool} (hv : matches_ s b = v) (hb : b.size ≤ 300) :
    Calls Try.prog 16 #[.agg cs.toArray, .string b] w fun e w' => e = .returned (.bool v) ∧ Below w.heap.size w w' := by
  obtain ⟨P, hPe, hP, hPl, hm⟩ := tree_told h0
  refine (rmatch_calls (treeOf s) (treeOf_isN s (comp_sound h0).1) P hPe hP hPl b (by omega) w cs h.held).mono fun e w' ⟨he, hb⟩ => ⟨?_, hb⟩
  rw [he, hm, hv]
end

set_option maxRecDepth 100000 in
set_option maxHeartbeats 40000000 in
theorem rxmatches_calls (s : ByteArray) (v : Value) (l : List ByteArray) (W : World) (hs : s.size ≤ maxLen) (hv : InS W v l) (hlm : l.length ≤ maxLen) :
    Calls Try.prog 7 #[.string s, v] W (LawPost W) := by
  unfold maxLen at hs hlm
  obtain ⟨ao, cap, rfl⟩ : ∃ ao cap, v = .slice ao l.length cap := by
    rcases hv with ⟨c, rfl, rfl⟩ | ⟨a, cap, rfl, _⟩
    · exact ⟨none, c, rfl⟩
    · exact ⟨_, cap, rfl⟩
  have hcells : 0 < l.length → ∃ a, ao = some a ∧ ∀ i (h : i < l.length), W.cell? (a.add i) = some (.string (l[i]'h)) := by
    intro h0
    rcases hv with ⟨c, h1, h2⟩ | ⟨a, cap', h1, h2⟩
    · rw [h2] at h0; simp at h0
    · simp only [Value.slice.injEq, true_and] at h1
      exact ⟨a, h1.1, h2⟩
  have HCells := Lib.hid hcells; clear hcells hv
  go_enter Try.func7, Try.ntmps7
  go_wp2_with fail
  refine (known_calls _).mono ?_
  rintro q W1 ⟨rfl, hb1⟩
  have HB := Lib.hid hb1; clear hb1
  by_cases h1 : 300 < s.size ∧ s.size ≤ 4096
  · obtain ⟨h1, h1'⟩ := h1
    go_wp2_with fail
    go_ret
    exact ⟨rfl, HB.out⟩
  by_cases h2 : 16384 < s.size
  · go_wp2_with fail
    go_ret
    exact ⟨rfl, HB.out⟩
  by_cases h3 : 30 < l.length
  · by_cases h4 : 300 < s.size
    · have h5 : ¬ s.size ≤ 4096 := by omega
      clear h1
      go_wp2_with fail
      go_ret
      exact ⟨rfl, HB.out⟩
    · clear h1
      go_wp2_with fail
      go_ret
      exact ⟨rfl, HB.out⟩
  have hsm : s.size ≤ 300 ∨ (300 < s.size ∧ ¬ s.size ≤ 4096) := by omega
  clear h1
  have hs16 : s.size ≤ 16384 := by omega
  by_cases h0 : errOf s = 0
  · have h41 := (comp_sound h0).1
    have hsm : s.size ≤ 300 := by omega
    have hb0 := bad_zero h0
    have hpl := progOf_length s h41
    have HCl := Lib.hid (fun b : ByteArray => (⟨_, rfl⟩ : ∃ v, matches_ s b = v))
    go_wp2_with fail
    refine (comp_calls s (by unfold maxLen; omega) _).mono ?_
    rintro q W2 ⟨hb2, hgood, hbad⟩
    replace HB := Lib.hid (after HB.out (Nat.le_refl _) hb2); clear hb2
    obtain ⟨p, rfl, hm⟩ := hgood h0
    clear hgood hbad
    have HM := Lib.hid hm; clear hm
    have H0 := Lib.hid h0; clear h0
    have HB0 := Lib.hid hb0; clear hb0
    go_wp2_with fail
    refine (rcompile_calls s hs16 _).mono ?_
    rintro q W3 ⟨cs, rfl, hnv, hb3⟩
    replace HM := Lib.hid (HM.out.below hb3)
    replace HB := Lib.hid (after HB.out (Nat.le_refl _) hb3); clear hb3
    have hHeld := hnv.held H0.out
    have hz := zeroNode
    have hlen := hnv.len
    have hst := storeNode_new W3 W3.heap.size rfl (ncl_length 0 nilS none256) hnv.len hnv.one
    rw [H0.out, HB0.out]
    go_wp2_with fail
    clear hz hst
    have hms : MS W (W3.alloc (.cells cs.toArray 38)) p s W3.heap.size cs := by
      have hba := (Below.refl W3.heap.size W3).alloc (Nat.le_refl _) (.cells cs.toArray 38)
      exact ⟨HM.out.below hba, blk_new _ _, hHeld.keep fun b _ hlt => ⟨Below.heap_alloc _ _ _ hlt, by simp; omega⟩, HB.out.trans (hba.mono HB.out.size)⟩
    have HMs := Lib.hid hms; clear hms HM HB hHeld hnv
    obtain ⟨Bn, hBn⟩ : ∃ Bn, Bn = W3.heap.size := ⟨_, rfl⟩
    have hl64 : l.length ≤ 30 := by omega
    go_loopw [11] (fun i wr => ∃ k : Nat, k ≤ l.length ∧ i = .int .i64 (k : Int) ∧ MS W wr p s W3.heap.size cs) (fun i _ => l.length - (intOf i).toNat)
    case atStart => exact ⟨0, Nat.zero_le _, rfl, HMs.out⟩
    case round =>
      obtain ⟨k, hk, rfl, hms⟩ := hrel
      have hmade := hms.made
      have HM := Lib.hid hms; clear hms
      by_cases hkl : k < l.length
      · obtain ⟨a, rfl, hcs⟩ := HCells.out (by omega)
        have hck : wr.cell? (a.add k) = some (.string (l[k]'hkl)) := by
          rw [HM.out.bel.cell (World.block_lt_of_cell? W _ (hcs k hkl))]; exact hcs k hkl
        clear hcs
        obtain ⟨b, hb⟩ : ∃ b, b = l[k]'hkl := ⟨_, rfl⟩
        rw [← hb] at hck
        clear hb
        by_cases hbz : b.size ≤ 300
        · obtain ⟨v, hv⟩ := HCl.out b
          have HV := Lib.hid hv; clear hv
          have hrg := HM.out.range
          have hms : wr.rangeAt W3.heap.size 0 cs ∧ wr.cell? (a.add k) = some (.string b) ∧ MS W wr p s W3.heap.size cs := ⟨hrg, hck, HM.out⟩
          have hu : Try.prog.underlying 38 = some _ := Try.underlying38
          have hi : (Try.prog.info? 38).map (·.size) = some cs.length := by rw [nodeSize, hlen]
          have hms2 := ms_drew hms
          obtain ⟨hr2, hc2, hm2⟩ := hms2
          clear hms hrg hmade
          have hd : decide ((b.size : Int) ≤ 300) = true := by simp; omega
          go_wp2_with fail
          refine wp_region_held_drew (S := fun w' => w'.rangeAt W3.heap.size 0 cs ∧ w'.cell? (a.add k) = some (.string b) ∧ MS W w' p s W3.heap.size cs) (by kernel_rfl) ⟨hr2, hc2, hm2⟩ (fun hS => ?_)
          clear hr2 hc2 hm2 hck
          refine wpAnyH_take (i := 0) (v := .slice (some a) l.length cap) rfl (by kernel_rfl) (by kernel_rfl) (by kernel_rfl) (fun _ _ _ h => h) (Or.inl ⟨by rfl, fun w hSw => by obtain ⟨_, hcw, _⟩ := hSw; clear hS; go_simp⟩) hS ?_
          try simp only [Act.put, List.getElem_toArray, List.getElem_cons_zero, List.setIfInBounds_toArray, List.set_cons_zero, List.set_cons_succ]
          refine wpAnyH_take (i := 1) (v := .int .i64 (k : Int)) rfl (by kernel_rfl) (by kernel_rfl) (by kernel_rfl) (fun _ _ _ h => h) (Or.inl ⟨by rfl, fun w hSw => by obtain ⟨_, hcw, _⟩ := hSw; clear hS; go_simp⟩) hS ?_
          try simp only [Act.put, List.getElem_toArray, List.getElem_cons_zero, List.getElem_cons_succ, List.setIfInBounds_toArray, List.set_cons_zero, List.set_cons_succ]
          refine wpAnyH_take (i := 2) (v := .pointer (some (a.add k))) rfl (by kernel_rfl) (by kernel_rfl) (by kernel_rfl) (fun _ _ _ h => h) (Or.inl ⟨by rfl, fun w hSw => by obtain ⟨_, hcw, _⟩ := hSw; clear hS; go_simp⟩) hS ?_
          try simp only [Act.put, List.getElem_toArray, List.getElem_cons_zero, List.getElem_cons_succ, List.setIfInBounds_toArray, List.set_cons_zero, List.set_cons_succ]
          refine wpAnyH_take (i := 3) (v := .string b) rfl (by kernel_rfl) (by kernel_rfl) (by kernel_rfl) (fun _ _ _ h => h) (Or.inl ⟨by rfl, fun w hSw => by obtain ⟨_, hcw, _⟩ := hSw; clear hS; go_simp⟩) hS ?_
          try simp only [Act.put, List.getElem_toArray, List.getElem_cons_zero, List.getElem_cons_succ, List.setIfInBounds_toArray, List.set_cons_zero, List.set_cons_succ]
          refine wpAnyH_take (i := 4) (v := .int .i64 (b.size : Int)) rfl (by kernel_rfl) (by kernel_rfl) (by kernel_rfl) (fun _ _ _ h => h) (Or.inl ⟨by rfl, fun w hSw => by obtain ⟨_, hcw, _⟩ := hSw; clear hS; go_simp⟩) hS ?_
          try simp only [Act.put, List.getElem_toArray, List.getElem_cons_zero, List.getElem_cons_succ, List.setIfInBounds_toArray, List.set_cons_zero, List.set_cons_succ]
          refine wpAnyH_take (i := 5) (v := .bool true) rfl (by kernel_rfl) (by kernel_rfl) (by kernel_rfl) (fun _ _ _ h => h) (Or.inl ⟨by rfl, fun w hSw => by obtain ⟨_, hcw, _⟩ := hSw; clear hS; go_simp⟩) hS ?_
          try simp only [Act.put, List.getElem_toArray, List.getElem_cons_zero, List.getElem_cons_succ, List.setIfInBounds_toArray, List.set_cons_zero, List.set_cons_succ]
          refine wpAnyH_take (i := 6) (v := .bool true) rfl (by kernel_rfl) (by kernel_rfl) (by kernel_rfl) (fun _ _ _ h => h) (Or.inl ⟨by rfl, fun w hSw => by obtain ⟨_, hcw, _⟩ := hSw; clear hS; go_simp⟩) hS ?_
          try simp only [Act.put, List.getElem_toArray, List.getElem_cons_zero, List.getElem_cons_succ, List.setIfInBounds_toArray, List.set_cons_zero, List.set_cons_succ]
          refine wpAnyH_take (i := 7) (v := .pointer (some ⟨p, 0, none⟩)) rfl (by kernel_rfl) (by kernel_rfl) (by kernel_rfl) (fun _ _ _ h => h) (Or.inl ⟨by rfl, fun w hSw => by obtain ⟨_, hcw, _⟩ := hSw; clear hS; go_simp⟩) hS ?_
          try simp only [Act.put, List.getElem_toArray, List.getElem_cons_zero, List.getElem_cons_succ, List.setIfInBounds_toArray, List.set_cons_zero, List.set_cons_succ]
          refine wpAnyH_take (i := 8) (v := .slice (some a) l.length cap) rfl (by kernel_rfl) (by kernel_rfl) (by kernel_rfl) (fun _ _ _ h => h) (Or.inl ⟨by rfl, fun w hSw => by obtain ⟨_, hcw, _⟩ := hSw; clear hS; go_simp⟩) hS ?_
          try simp only [Act.put, List.getElem_toArray, List.getElem_cons_zero, List.getElem_cons_succ, List.setIfInBounds_toArray, List.set_cons_zero, List.set_cons_succ]
          refine wpAnyH_take (i := 9) (v := .int .i64 (k : Int)) rfl (by kernel_rfl) (by kernel_rfl) (by kernel_rfl) (fun _ _ _ h => h) (Or.inl ⟨by rfl, fun w hSw => by obtain ⟨_, hcw, _⟩ := hSw; clear hS; go_simp⟩) hS ?_
          try simp only [Act.put, List.getElem_toArray, List.getElem_cons_zero, List.getElem_cons_succ, List.setIfInBounds_toArray, List.set_cons_zero, List.set_cons_succ]
          refine wpAnyH_take (i := 10) (v := .pointer (some (a.add k))) rfl (by kernel_rfl) (by kernel_rfl) (by kernel_rfl) (fun _ _ _ h => h) (Or.inl ⟨by rfl, fun w hSw => by obtain ⟨_, hcw, _⟩ := hSw; clear hS; go_simp⟩) hS ?_
          try simp only [Act.put, List.getElem_toArray, List.getElem_cons_zero, List.getElem_cons_succ, List.setIfInBounds_toArray, List.set_cons_zero, List.set_cons_succ]
          refine wpAnyH_take (i := 11) (v := .string b) rfl (by kernel_rfl) (by kernel_rfl) (by kernel_rfl) (fun _ _ _ h => h) (Or.inl ⟨by rfl, fun w hSw => by obtain ⟨_, hcw, _⟩ := hSw; clear hS; go_simp⟩) hS ?_
          try simp only [Act.put, List.getElem_toArray, List.getElem_cons_zero, List.getElem_cons_succ, List.setIfInBounds_toArray, List.set_cons_zero, List.set_cons_succ]
          refine wpAnyH_take (i := 13) (v := .agg cs.toArray) rfl (by kernel_rfl) (by kernel_rfl) (by kernel_rfl) (fun _ _ _ h => h) (yieldsIf_load_mid (by rfl) 38 (.tmp 8) rfl W3.heap.size 0 rfl cs _ (fun w hw => hw.1) Try.underlying38 rfl hi) hS ?_
          try simp only [Act.put, List.getElem_toArray, List.getElem_cons_zero, List.getElem_cons_succ, List.setIfInBounds_toArray, List.set_cons_zero, List.set_cons_succ]
          refine wpAnyH_take (i := 14) (v := .slice (some a) l.length cap) rfl (by kernel_rfl) (by kernel_rfl) (by kernel_rfl) (fun _ _ _ h => h) (Or.inl ⟨by rfl, fun w hSw => by obtain ⟨_, hcw, _⟩ := hSw; clear hS; go_simp⟩) hS ?_
          try simp only [Act.put, List.getElem_toArray, List.getElem_cons_zero, List.getElem_cons_succ, List.setIfInBounds_toArray, List.set_cons_zero, List.set_cons_succ]
          refine wpAnyH_take (i := 15) (v := .int .i64 (k : Int)) rfl (by kernel_rfl) (by kernel_rfl) (by kernel_rfl) (fun _ _ _ h => h) (Or.inl ⟨by rfl, fun w hSw => by obtain ⟨_, hcw, _⟩ := hSw; clear hS; go_simp⟩) hS ?_
          try simp only [Act.put, List.getElem_toArray, List.getElem_cons_zero, List.getElem_cons_succ, List.setIfInBounds_toArray, List.set_cons_zero, List.set_cons_succ]
          refine wpAnyH_take (i := 16) (v := .pointer (some (a.add k))) rfl (by kernel_rfl) (by kernel_rfl) (by kernel_rfl) (fun _ _ _ h => h) (Or.inl ⟨by rfl, fun w hSw => by obtain ⟨_, hcw, _⟩ := hSw; clear hS; go_simp⟩) hS ?_
          try simp only [Act.put, List.getElem_toArray, List.getElem_cons_zero, List.getElem_cons_succ, List.setIfInBounds_toArray, List.set_cons_zero, List.set_cons_succ]
          refine wpAnyH_take (i := 17) (v := .string b) rfl (by kernel_rfl) (by kernel_rfl) (by kernel_rfl) (fun _ _ _ h => h) (Or.inl ⟨by rfl, fun w hSw => by obtain ⟨_, hcw, _⟩ := hSw; clear hS; go_simp⟩) hS ?_
          try simp only [Act.put, List.getElem_toArray, List.getElem_cons_zero, List.getElem_cons_succ, List.setIfInBounds_toArray, List.set_cons_zero, List.set_cons_succ]
          refine wpAnyH_ready (rs := [12]) (by kernel_rfl) (by simp) (AllReadyH.cons rfl (fun K hK => ?_) AllReadyH.nil)
          rw [if_pos (by rfl)]
          go_simp
          go_at_call 13
          refine (MS.matches hS.2.2 HV.out hbz).mono ?_
          rintro e w1 ⟨rfl, hb1⟩
          refine hK _ _ (ms_keep hS hb1) (fun hS1 => ?_)
          clear hK K
          try simp only [Act.put, List.getElem_toArray, List.getElem_cons_zero, List.getElem_cons_succ, List.setIfInBounds_toArray, List.set_cons_zero, List.set_cons_succ]
          refine wpAnyH_ready (rs := [18]) (by kernel_rfl) (by simp) (AllReadyH.cons rfl (fun K hK => ?_) AllReadyH.nil)
          rw [if_pos (by rfl)]
          go_simp
          go_at_call 16
          refine (MS.rmatches hS1.2.2 H0.out HV.out hbz).mono ?_
          rintro e w2 ⟨rfl, hb2⟩
          refine hK _ _ (ms_keep hS1 hb2) (fun hS2 => ?_)
          clear hK K
          try simp only [Act.put, List.getElem_toArray, List.getElem_cons_zero, List.getElem_cons_succ, List.setIfInBounds_toArray, List.set_cons_zero, List.set_cons_succ]
          have hS := hS2
          refine wpAnyH_take (i := 19) (v := .bool false) rfl (by kernel_rfl) (by kernel_rfl) (by kernel_rfl) (fun _ _ _ h => h) (Or.inl ⟨by rfl, fun w hSw => by obtain ⟨_, hcw, _⟩ := hSw; clear hS; go_simp⟩) hS ?_
          try simp only [Act.put, List.getElem_toArray, List.getElem_cons_zero, List.getElem_cons_succ, List.setIfInBounds_toArray, List.set_cons_zero, List.set_cons_succ]
          refine wpAnyH_take (i := 20) (v := .bool false) rfl (by kernel_rfl) (by kernel_rfl) (by kernel_rfl) (fun _ _ _ h => h) (Or.inl ⟨by rfl, fun w hSw => by obtain ⟨_, hcw, _⟩ := hSw; clear hS; go_simp⟩) hS ?_
          try simp only [Act.put, List.getElem_toArray, List.getElem_cons_zero, List.getElem_cons_succ, List.setIfInBounds_toArray, List.set_cons_zero, List.set_cons_succ]
          refine wpAnyH_done (by kernel_rfl) ?_ _
          have HM2 := Lib.hid hS2.2.2
          clear hS hS1 hS2 hb1 hb2
          go_wp2_with fail
          go_roundw
          case rel => exact ⟨k + 1, by omega, by go_num, HM2.out⟩
          case measure => (simp [intOf] <;> omega)
        · have hd : decide ((b.size : Int) ≤ 300) = false := by simp; omega
          go_wp2_with fail
          go_quiet (fail)
          go_wp2_with fail
          go_roundw
          case rel => exact ⟨k + 1, by omega, by go_num, HM.out.step (below_drewN (Below.refl _ _) _)⟩
          case measure => (simp [intOf] <;> omega)
      · obtain ⟨pg, hpr⟩ : ∃ P, P = progOf s := ⟨_, rfl⟩
        have hprg := hmade.prog
        rw [← hpr] at hpl hprg
        have HPr := Lib.hid hprg; clear hprg hmade hpr
        go_wp2_with fail
        refine (states_calls p pg _ HPr.out).mono ?_
        rintro e w1 ⟨rfl, rfl⟩
        have hfin : ((pg.length : Int) ≤ 4 * (s.size : Int) + 4) := by omega
        go_wp2_with fail
        go_ret
        exact ⟨rfl, HM.out.bel⟩
  · rcases hsm with hsm | ⟨hsm, hsn⟩
    all_goals
      go_wp2_with fail
      refine (comp_calls s (by unfold maxLen; omega) _).mono ?_
      rintro q W2 ⟨hb2, hgood, hbad⟩
      replace HB := Lib.hid (after HB.out (Nat.le_refl _) hb2); clear hb2
      have he := hbad h0
      subst he
      clear hgood hbad
      have hne : ((errOf s : Int) != 0) = true := by rw [bne_iff_ne]; omega
      have H0 := Lib.hid h0; clear h0
      go_wp2_with fail
      refine (rcompile_calls s hs16 _).mono ?_
      rintro q W3 ⟨cs, rfl, hnv, hb3⟩
      replace HB := Lib.hid (after HB.out (Nat.le_refl _) hb3); clear hb3
      have hz := zeroNode
      have hlen := hnv.len
      have hst := storeNode_new W3 W3.heap.size rfl (ncl_length 0 nilS none256) hnv.len hnv.one
      clear hnv
      go_wp2_with fail
      go_ret
      exact ⟨rfl, HB.out.alloc HB.out.size _⟩
end Go.Proofs.Ytokcffkffcfolaa.Rh
