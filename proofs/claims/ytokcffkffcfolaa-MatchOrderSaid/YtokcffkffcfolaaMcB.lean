/-
  MatchOrder: matchers in another order, or twice, match the same; with one more they match no more. The walk.
-/
import Derived.Test.YtokcffkffcfolaaMcA
namespace Go.Proofs.Ytokcffkffcfolaa.Ma
open Go Go.RowKit Go.Proofs.Ytokcffkffcfolaa.Rg

/-- Each twice. -/
def dupL (l : List Mr) : List Mr := l.flatMap fun m => [m, m]
theorem dupL_mem {l : List Mr} {m : Mr} : m ∈ dupL l ↔ m ∈ l := by
  simp [dupL]
theorem dupL_length (l : List Mr) : (dupL l).length = 2 * l.length := by
  induction l with
  | nil => rfl
  | cons x l ih => simp only [dupL, List.flatMap_cons, List.length_append] at *; rw [ih]; simp; omega
theorem dupL_snoc (l : List Mr) (m : Mr) : dupL (l ++ [m]) = dupL l ++ [m, m] := by simp [dupL]
theorem errL_zero : ∀ {l : List Mr}, (∀ m ∈ l, err1 m = 0) → errL l = 0
  | [], _ => rfl
  | m :: l, h => by rw [errL, if_pos (h m (by simp)), errL_zero fun x hx => h x (by simp [hx])]
theorem errM_zero {l : List Mr} (h32 : l.length ≤ 32) (h : ∀ m ∈ l, err1 m = 0) : errM l = 0 := by rw [errM, if_neg (by omega), errL_zero h]
theorem errM_one {l : List Mr} (h : errM l = 0) : ∀ m ∈ l, err1 m = 0 := by
  unfold errM at h
  by_cases h32 : 32 < l.length
  · rw [if_pos h32] at h; cases h
  · rw [if_neg h32] at h; exact errL_all h
theorem kinds_ok {l : List Mr} (h : errM l = 0) (hs : ∀ m ∈ l, m.name.size ≤ 300 ∧ m.value.size ≤ 300) : ∀ m ∈ l, 1 ≤ m.kind ∧ m.kind ≤ 4 ∧ m.value.size ≤ 300 := fun m hm =>
  ⟨(badM_kind ((errM_all h).2 m hm).1).1, (badM_kind ((errM_all h).2 m hm).1).2.1, (hs m hm).2⟩
theorem meant_dup (l : List Mr) (s : List Lb) : meantB (dupL l.reverse) s = meantB l s := by
  rw [Bool.eq_iff_iff, meantB, meantB, List.all_eq_true, List.all_eq_true]
  exact ⟨fun h m hm => h m (dupL_mem.2 (List.mem_reverse.2 hm)), fun h m hm => h m (List.mem_reverse.1 (dupL_mem.1 hm))⟩
theorem meant_more (l : List Mr) (m : Mr) (s : List Lb) : meantB (l ++ [m]) s = (meantB l s && holdsB m (getL m.name s)) := by simp [meantB]
theorem few_all {l : List Mr} (h : fewB l = true) : l.length ≤ 40 ∧ ∀ m ∈ l, m.name.size ≤ 300 ∧ m.value.size ≤ 300 := by
  simp only [fewB, Bool.and_eq_true, decide_eq_true_eq, List.all_eq_true] at h
  refine ⟨h.2, fun m hm => ?_⟩
  have := h.1 m (by rw [List.take_of_length_le (by omega)]; exact hm)
  simpa [Mr.small] using this
theorem fewL_all {l : List Lb} (h : fewLB l = true) : l.length ≤ 80 ∧ ∀ x ∈ l, x.value.size ≤ 100000 := by
  simp only [fewLB, Bool.and_eq_true, decide_eq_true_eq, List.all_eq_true] at h
  refine ⟨h.1, fun x hx => ?_⟩
  have := h.2 x hx
  simp [Lb.small] at this
  omega
/-- What the law holds of its arguments. -/
structure Ord (W w : World) (v : Value) (l : List Mr) (more : Mr) (vs : Value) (s : List Lb) : Prop where
  rm : RowM w v l
  rl : RowL w vs s
  box : w.heap[W.heap.size]? = some (.cells #[.int .i64 more.kind, .string more.name, .string more.value] 48 (0, 0))
  bel : Below W.heap.size W w
theorem Ord.below {W w w1 : World} {v vs : Value} {l : List Mr} {more : Mr} {s : List Lb} (h : Ord W w v l more vs s) (hb : Below w.heap.size w w1) : Ord W w1 v l more vs s :=
  ⟨h.rm.below hb, h.rl.below hb, (hb.block _ (blk_lt h.box)).trans h.box, h.bel.trans (hb.mono h.bel.size)⟩
structure OrdS (W w : World) (v : Value) (l : List Mr) (more : Mr) (vs : Value) (s : List Lb) (sp1 sp2 : Nat) : Prop where
  o : Ord W w v l more vs s
  a : IsSet w sp1 l
  b : IsSet w sp2 (dupL l.reverse)
theorem OrdS.below {W w w1 : World} {v vs : Value} {l : List Mr} {more : Mr} {s : List Lb} {sp1 sp2 : Nat} (h : OrdS W w v l more vs s sp1 sp2) (hb : Below w.heap.size w w1) : OrdS W w1 v l more vs s sp1 sp2 := ⟨h.o.below hb, h.a.below hb, h.b.below hb⟩
theorem ord_keep {W w w1 : World} {g : Nat} {v0 v1 v2 v vs : Value} {l : List Mr} {more : Mr} {s : List Lb} {sp1 sp2 : Nat} (h : w.cell? ⟨g, 0, none⟩ = some v0 ∧ w.cell? ⟨g, 1, none⟩ = some v1 ∧ w.cell? ⟨g, 2, none⟩ = some v2 ∧ OrdS W w v l more vs s sp1 sp2) (hb : Below w.heap.size w w1) :
    w1.cell? ⟨g, 0, none⟩ = some v0 ∧ w1.cell? ⟨g, 1, none⟩ = some v1 ∧ w1.cell? ⟨g, 2, none⟩ = some v2 ∧ OrdS W w1 v l more vs s sp1 sp2 := by
  have hl := World.block_lt_of_cell? w _ h.1
  exact ⟨(hb.cell (p := ⟨g, 0, none⟩) hl).trans h.1, (hb.cell (p := ⟨g, 1, none⟩) hl).trans h.2.1, (hb.cell (p := ⟨g, 2, none⟩) hl).trans h.2.2.1, h.2.2.2.below hb⟩
theorem RowM.blk {w w1 : World} {b n cap : Nat} {l : List Mr} (h : RowM w (.slice (some ⟨b, 0, none⟩) n cap) l) (hb : w1.heap[b]? = w.heap[b]?) : RowM w1 (.slice (some ⟨b, 0, none⟩) n cap) l := by
  obtain ⟨ao, cap', hv, hc⟩ := h.val
  cases hv
  refine ⟨_, _, rfl, fun h0 => ?_⟩
  obtain ⟨b', o, e, hm⟩ := hc h0
  cases e
  refine ⟨_, _, rfl, fun i m hi => ?_⟩
  obtain ⟨h1, h2, h3⟩ := hm i m hi
  exact ⟨(World.cell?_of_block hb).trans h1, (World.cell?_of_block hb).trans h2, (World.cell?_of_block hb).trans h3⟩
theorem OwnM.lit (W w : World) (base : Nat) (hb : Below base W w) (hW : base ≤ W.heap.size) : OwnM W (w.alloc (.cells #[] 48)) base (.slice (some ⟨w.heap.size, 0, none⟩) 0 0) [] :=
  ⟨World.ownsRow_lit w #[] 0 (Nat.le_trans hW (by have := hb.size; exact this)) (by unfold maxLen; omega) rfl, hb.alloc (Nat.le_trans hW hb.size) _, hW⟩
theorem OwnM.alloc {W w : World} {base : Nat} {v : Value} {L : List Mr} (h : OwnM W w base v L) (o : Obj) : OwnM W (w.alloc o) base v L := ⟨h.own.alloc o, h.bel.alloc (Nat.le_trans h.bas h.bel.size) o, h.bas⟩
set_option linter.unusedSimpArgs false in
set_option maxRecDepth 100000 in
set_option maxHeartbeats 80000000 in
theorem order_calls (v : Value) (l : List Mr) (more : Mr) (vs : Value) (s : List Lb) (W : World) (hR : RowM W v l) (hRs : RowL W vs s) (hl : l.length ≤ maxLen) (hsl : s.length ≤ maxLen) :
    Calls Try.prog 10 #[v, .agg #[.int .i64 more.kind, .string more.name, .string more.value], vs] W (LawPost W) := by
  have hl' := hl
  have hsl' := hsl
  unfold maxLen at hl hsl
  have HL := Lib.hid hl'; clear hl'
  have HSl := Lib.hid hsl'; clear hsl'
  obtain ⟨ao, cap, rfl, _⟩ := hR.val
  obtain ⟨bo, capb, rfl, _⟩ := hRs.val
  have hba := (Below.refl W.heap.size W).alloc (Nat.le_refl _) (.cells #[.int .i64 more.kind, .string more.name, .string more.value] 48)
  have HT : Hid (Ord W (W.alloc (.cells #[.int .i64 more.kind, .string more.name, .string more.value] 48)) (.slice ao l.length cap) l more (.slice bo s.length capb) s) := Lib.hid ⟨hR.below hba, hRs.below hba, blk_new W _, hba⟩
  clear hR hRs hba
  go_enter Try.func10, Try.ntmps10
  go_wp2_with fail
  refine (knownM_calls _).mono ?_
  rintro q W1 ⟨rfl, hb1⟩
  replace HT := Lib.hid (HT.out.below hb1); clear hb1
  cases hf : fewB l with
  | false =>
    have HF := Lib.hid hf; clear hf
    go_wp2_with fail
    refine (few_calls _ l _ HT.out.rm HL.out false HF.out).mono ?_
    rintro e W2 ⟨rfl, rfl⟩
    go_wp2_with fail
    go_ret
    exact ⟨rfl, HT.out.bel⟩
  | true =>
    have HF := Lib.hid hf; clear hf
    go_wp2_with fail
    refine (few_calls _ l _ HT.out.rm HL.out true HF.out).mono ?_
    rintro e W2 ⟨rfl, rfl⟩
    by_cases h15 : 15 < l.length
    · go_wp2_with fail
      go_ret
      exact ⟨rfl, HT.out.bel⟩
    obtain ⟨_, hsm⟩ := few_all HF.out
    have HSm := Lib.hid hsm; clear hsm
    have h1000 : l.length ≤ 1000 := by omega
    have a0 := blk_cell HT.out.box 0
    have a1 := blk_cell HT.out.box 1
    have a2 := blk_cell HT.out.box 2
    go_wp2_with fail
    clear a0 a1 a2
    obtain ⟨W2, hW2⟩ : ∃ w : World, w = W1 := ⟨_, rfl⟩
    subst hW2
    have hO := RowM.lit W2 [more] (by simp) #[.int .i64 more.kind, .string more.name, .string more.value] rfl
    have hba := (Below.refl (W2).heap.size W2).alloc (Nat.le_refl _) (.cells #[.int .i64 more.kind, .string more.name, .string more.value] 48)
    replace HT := Lib.hid (HT.out.below hba); clear hba
    cases hf1 : fewB [more] with
    | false =>
      have HF1 := Lib.hid hf1; clear hf1
      refine (few_calls (.slice (some ⟨W2.heap.size, 0, none⟩) 1 1) [more] _ hO (by unfold maxLen; simp) false HF1.out).mono ?_
      rintro e W3 ⟨rfl, rfl⟩
      clear hO
      go_wp2_with fail
      go_ret
      exact ⟨rfl, HT.out.bel⟩
    | true =>
      have hsm1 := (few_all hf1).2 more (by simp)
      have HF1 := Lib.hid hf1; clear hf1
      have HSm1 := Lib.hid hsm1; clear hsm1
      refine (few_calls (.slice (some ⟨W2.heap.size, 0, none⟩) 1 1) [more] _ hO (by unfold maxLen; simp) true HF1.out).mono ?_
      rintro e W3 ⟨rfl, rfl⟩
      clear hO
      cases hf2 : fewLB s with
      | false =>
        have HF2 := Lib.hid hf2; clear hf2
        go_wp2_with fail
        refine (fewL_calls _ s _ HT.out.rl HSl.out false HF2.out).mono ?_
        rintro e W3 ⟨rfl, rfl⟩
        go_wp2_with fail
        go_ret
        exact ⟨rfl, HT.out.bel⟩
      | true =>
        obtain ⟨hs80, hsv⟩ := fewL_all hf2
        have HSv := Lib.hid hsv; clear hsv
        have HF2 := Lib.hid hf2; clear hf2
        go_wp2_with fail
        refine (fewL_calls _ s _ HT.out.rl HSl.out true HF2.out).mono ?_
        rintro e W3 ⟨rfl, rfl⟩
        go_wp2_with fail
        (with_reducible refine (rcheck_calls _ l _ HT.out.rm h1000 HSm.out).mono ?_)
        rintro e W3 ⟨rfl, hb3⟩
        replace HT := Lib.hid (HT.out.below hb3); clear hb3
        by_cases h0 : errM l = 0
        · rw [h0]
          have H0 := Lib.hid h0; clear h0
          have a0 := blk_cell HT.out.box 0
          have a1 := blk_cell HT.out.box 1
          have a2 := blk_cell HT.out.box 2
          go_wp2_with fail
          clear a0 a1 a2
          have hO := RowM.lit W3 [more] (by simp) #[.int .i64 more.kind, .string more.name, .string more.value] rfl
          have hba := (Below.refl (W3).heap.size W3).alloc (Nat.le_refl _) (.cells #[.int .i64 more.kind, .string more.name, .string more.value] 48)
          replace HT := Lib.hid (HT.out.below hba); clear hba
          refine (rcheck_calls (.slice (some ⟨W3.heap.size, 0, none⟩) 1 1) [more] _ hO (by simp) (by simpa using HSm1.out)).mono ?_
          rintro e W4 ⟨rfl, hb4⟩
          replace HT := Lib.hid (HT.out.below hb4); clear hb4 hO
          by_cases h1 : errM [more] = 0
          · rw [h1]
            have H1 := Lib.hid h1; clear h1
            go_wp2_with fail
            obtain ⟨W5, hW5⟩ : ∃ w : World, w = W4 := ⟨_, rfl⟩
            subst hW5
            have h0r : OwnM W5 W5 W5.heap.size (.slice none 0 0) (dupL (l.drop l.length).reverse) := ⟨by rw [List.drop_length]; exact World.ownsRow_nil _ _ _ _, Below.refl _ _, Nat.le_refl _⟩
            have H0r := Lib.hid h0r; clear h0r
            have h2000 : ∀ k, (dupL (l.drop k).reverse).length ≤ 80 := fun k => by rw [dupL_length, List.length_reverse, List.length_drop]; omega
            have H20 := Lib.hid h2000; clear h2000
            go_loopw [7, 8] (fun vq i wr => ∃ (vb : Value) (k : Nat) (z : Int), vb = vq ∧ k ≤ l.length ∧ z = (k : Int) - 1 ∧ i = .int .i64 z ∧ OwnM W5 wr W5.heap.size vb (dupL (l.drop k).reverse)) (fun _ i _ => (intOf i + 1).toNat)
            case atStart => exact ⟨_, l.length, (l.length : Int) - 1, rfl, Nat.le_refl _, rfl, rfl, H0r.out⟩
            case round =>
              obtain ⟨vb, k, z, rfl, hk, hz, rfl, hO⟩ := hrel
              have HTr := Lib.hid (HT.out.below hO.bel)
              have HO := Lib.hid hO; clear hO
              by_cases hk0 : k = 0
              · obtain rfl : z = -1 := by omega
                subst hk0
                clear hz
                have hfl : (l.drop 0).reverse = l.reverse := by rw [List.drop_zero]
                rw [hfl] at HO
                clear hfl
                have hsmd : ∀ m ∈ dupL l.reverse, m.name.size ≤ 300 ∧ m.value.size ≤ 300 := fun m hm => HSm.out m (List.mem_reverse.1 (dupL_mem.1 hm))
                have herd : errM (dupL l.reverse) = 0 := errM_zero (by rw [dupL_length, List.length_reverse]; omega) fun m hm => errM_one H0.out m (List.mem_reverse.1 (dupL_mem.1 hm))
                have hldd : (dupL l.reverse).length ≤ 1000 := by rw [dupL_length, List.length_reverse]; omega
                have hmore : ∀ m ∈ l ++ [more], m.name.size ≤ 300 ∧ m.value.size ≤ 300 := fun m hm => by
                  rw [List.mem_append, List.mem_singleton] at hm
                  rcases hm with hm | rfl
                  · exact HSm.out m hm
                  · exact HSm1.out
                have herm : errM (l ++ [more]) = 0 := errM_zero (by simp; omega) fun m hm => by
                  rw [List.mem_append, List.mem_singleton] at hm
                  rcases hm with hm | rfl
                  · exact errM_one H0.out m hm
                  · exact errM_one H1.out m (by simp)
                have HD := Lib.hid (And.intro hsmd (And.intro herd hldd)); clear hsmd herd hldd
                have HMo := Lib.hid (And.intro hmore herm); clear hmore herm
                have hRb := RowM.of_own HO.out.own
                have HRb := Lib.hid hRb; clear hRb
                go_wp2_with fail
                refine (new_calls _ l _ HTr.out.rm h1000 HSm.out).mono ?_
                rintro e W6 ⟨hb6, hok6, _⟩
                obtain ⟨sp1, rfl, hset1⟩ := hok6 H0.out
                have HT6 := Lib.hid (HTr.out.below hb6)
                have HRb6 := Lib.hid (HRb.out.below hb6)
                have HS1 := Lib.hid hset1; clear hset1 hok6 hb6
                go_wp2_with fail
                refine (new_calls _ (dupL l.reverse) _ HRb6.out HD.out.2.2 HD.out.1).mono ?_
                rintro e W7 ⟨hb7, hok7, _⟩
                obtain ⟨sp2, rfl, hset2⟩ := hok7 HD.out.2.1
                have HT7 : Hid (OrdS W W7 (.slice ao l.length cap) l more (.slice bo s.length capb) s sp1 sp2) := Lib.hid ⟨HT6.out.below hb7, HS1.out.below hb7, hset2⟩
                clear hset2 hok7 hb7
                go_wp2_with fail
                refine wp_region_held_drew (S := fun w' => w'.cell? ⟨W.heap.size, 0, none⟩ = some (.int .i64 more.kind) ∧ w'.cell? ⟨W.heap.size, 1, none⟩ = some (.string more.name) ∧ w'.cell? ⟨W.heap.size, 2, none⟩ = some (.string more.value) ∧ OrdS W w' (.slice ao l.length cap) l more (.slice bo s.length capb) s sp1 sp2) (by kernel_rfl) ⟨blk_cell HT7.out.o.box 0, blk_cell HT7.out.o.box 1, blk_cell HT7.out.o.box 2, HT7.out.below (Below.refl _ _).drew⟩ (fun hS => ?_)
                refine wpAnyH_take (i := 1) (v := .slice ao l.length cap) rfl (by kernel_rfl) (by kernel_rfl) (by kernel_rfl) (fun _ _ _ h => h) (Or.inl ⟨by rfl, fun w hSw => by obtain ⟨hw0, hw1, hw2, hw3⟩ := hSw; clear hS hw3; go_simp⟩) hS ?_
                try simp only [Act.put, List.getElem_toArray, List.getElem_cons_zero, List.getElem_cons_succ, List.setIfInBounds_toArray, List.set_cons_zero, List.set_cons_succ]
                refine wpAnyH_take (i := 3) (v := .agg #[.int .i64 more.kind, .string more.name, .string more.value]) rfl (by kernel_rfl) (by kernel_rfl) (by kernel_rfl) (fun _ _ _ h => h) (Or.inl ⟨by rfl, fun w hSw => by obtain ⟨hw0, hw1, hw2, hw3⟩ := hSw; clear hS hw3; go_simp⟩) hS ?_
                try simp only [Act.put, List.getElem_toArray, List.getElem_cons_zero, List.getElem_cons_succ, List.setIfInBounds_toArray, List.set_cons_zero, List.set_cons_succ]
                have hd : Below W7.drew.heap.size W7.drew W7.drew := Below.refl _ _
                refine wpAnyH_ready (rs := [0, 4]) (by kernel_rfl) (by simp) (AllReadyH.cons rfl (fun K hK => ?_) (AllReadyH.cons rfl (fun K hK => ?_) AllReadyH.nil))
                · rw [if_pos (by rfl)]
                  go_simp
                  refine hK _ _ (ord_keep hS ((Below.refl _ _).alloc (Nat.le_refl _) _)) (fun hS1 => ?_)
                  clear hK K
                  try simp only [Act.put, List.getElem_toArray, List.getElem_cons_zero, List.getElem_cons_succ, List.setIfInBounds_toArray, List.set_cons_zero, List.set_cons_succ]
                  have hOw := OwnM.lit W7.drew W7.drew W7.drew.heap.size hd (Nat.le_refl _)
                  refine wpAnyH_ready (rs := [2, 4]) (by kernel_rfl) (by simp) (AllReadyH.cons rfl (fun K hK => ?_) (AllReadyH.cons rfl (fun K hK => ?_) AllReadyH.nil))
                  · rw [if_pos (by rfl)]
                    refine wp_appM (.tmp 76) (.tmp 77) rfl hOw hS1.2.2.2.o.rm (by simp; omega) rfl rfl ?_
                    intro v2 w2 hO2 hg2 hat2
                    rw [List.nil_append] at hO2
                    refine hK _ _ (ord_keep hS hO2.bel) (fun hS2 => ?_)
                    clear hK K
                    try simp only [Act.put, List.getElem_toArray, List.getElem_cons_zero, List.getElem_cons_succ, List.setIfInBounds_toArray, List.set_cons_zero, List.set_cons_succ]
                    refine wpAnyH_ready (rs := [4]) (by kernel_rfl) (by simp) (AllReadyH.cons rfl (fun K hK => ?_) AllReadyH.nil)
                    rw [if_pos (by rfl)]
                    go_simp
                    refine hK _ _ (ord_keep hS2 ((Below.refl _ _).alloc (Nat.le_refl _) _)) (fun hS3 => ?_)
                    clear hK K
                    try simp only [Act.put, List.getElem_toArray, List.getElem_cons_zero, List.getElem_cons_succ, List.setIfInBounds_toArray, List.set_cons_zero, List.set_cons_succ]
                    have hOne := RowM.lit w2 [more] (by simp) #[.int .i64 more.kind, .string more.name, .string more.value] rfl
                    refine wpAnyH_ready (rs := [5]) (by kernel_rfl) (by simp) (AllReadyH.cons rfl (fun K hK => ?_) AllReadyH.nil)
                    rw [if_pos (by rfl)]
                    refine wp_appM (.tmp 78) (.tmp 80) rfl (hO2.alloc _) hOne (by simp; omega) rfl rfl ?_
                    intro v5 w5 hO5 hg5 hat5
                    refine hK _ _ (ord_keep hS hO5.bel) (fun hS6 => ?_)
                    clear hK K
                    try simp only [Act.put, List.getElem_toArray, List.getElem_cons_zero, List.getElem_cons_succ, List.setIfInBounds_toArray, List.set_cons_zero, List.set_cons_succ]
                    refine wpAnyH_ready (rs := [6]) (by kernel_rfl) (by simp) (AllReadyH.cons rfl (fun K hK => ?_) AllReadyH.nil)
                    rw [if_pos (by rfl)]
                    go_simp
                    go_at_call 27
                    refine (new_calls _ (l ++ [more]) _ (RowM.of_own hO5.own) (by simp; omega) HMo.out.1).mono ?_
                    rintro e W8 ⟨hb8, hok8, _⟩
                    obtain ⟨sp3, rfl, hset3⟩ := hok8 HMo.out.2
                    refine hK _ _ (ord_keep hS6 hb8) (fun hS => ?_)
                    clear hK K
                    try simp only [Act.put, List.getElem_toArray, List.getElem_cons_zero, List.getElem_cons_succ, List.setIfInBounds_toArray, List.set_cons_zero, List.set_cons_succ]
                    refine wpAnyH_take (i := 7) (v := .tuple #[.pointer (some ⟨sp3, 0, none⟩), .int .i64 0]) rfl (by kernel_rfl) (by kernel_rfl) (by kernel_rfl) (fun _ _ _ h => h) (Or.inl ⟨by rfl, fun w hSw => by obtain ⟨hw0, hw1, hw2, hw3⟩ := hSw; clear hS hw3; go_simp⟩) hS ?_
                    try simp only [Act.put, List.getElem_toArray, List.getElem_cons_zero, List.getElem_cons_succ, List.setIfInBounds_toArray, List.set_cons_zero, List.set_cons_succ]
                    refine wpAnyH_take (i := 8) (v := .pointer (some ⟨sp3, 0, none⟩)) rfl (by kernel_rfl) (by kernel_rfl) (by kernel_rfl) (fun _ _ _ h => h) (Or.inl ⟨by rfl, fun w hSw => by obtain ⟨hw0, hw1, hw2, hw3⟩ := hSw; clear hS hw3; go_simp⟩) hS ?_
                    try simp only [Act.put, List.getElem_toArray, List.getElem_cons_zero, List.getElem_cons_succ, List.setIfInBounds_toArray, List.set_cons_zero, List.set_cons_succ]
                    refine wpAnyH_take (i := 9) (v := .int .i64 0) rfl (by kernel_rfl) (by kernel_rfl) (by kernel_rfl) (fun _ _ _ h => h) (Or.inl ⟨by rfl, fun w hSw => by obtain ⟨hw0, hw1, hw2, hw3⟩ := hSw; clear hS hw3; go_simp⟩) hS ?_
                    try simp only [Act.put, List.getElem_toArray, List.getElem_cons_zero, List.getElem_cons_succ, List.setIfInBounds_toArray, List.set_cons_zero, List.set_cons_succ]
                    refine wpAnyH_take (i := 10) (v := .pointer (some ⟨sp3, 0, none⟩)) rfl (by kernel_rfl) (by kernel_rfl) (by kernel_rfl) (fun _ _ _ h => h) (Or.inl ⟨by rfl, fun w hSw => by obtain ⟨hw0, hw1, hw2, hw3⟩ := hSw; clear hS hw3; go_simp⟩) hS ?_
                    try simp only [Act.put, List.getElem_toArray, List.getElem_cons_zero, List.getElem_cons_succ, List.setIfInBounds_toArray, List.set_cons_zero, List.set_cons_succ]
                    refine wpAnyH_take (i := 11) (v := .int .i64 0) rfl (by kernel_rfl) (by kernel_rfl) (by kernel_rfl) (fun _ _ _ h => h) (Or.inl ⟨by rfl, fun w hSw => by obtain ⟨hw0, hw1, hw2, hw3⟩ := hSw; clear hS hw3; go_simp⟩) hS ?_
                    try simp only [Act.put, List.getElem_toArray, List.getElem_cons_zero, List.getElem_cons_succ, List.setIfInBounds_toArray, List.set_cons_zero, List.set_cons_succ]
                    refine wpAnyH_done (by kernel_rfl) ?_ _
                    have HT8 := Lib.hid hS.2.2.2
                    have HS3 := Lib.hid hset3
                    clear hS hset3 hok8 hb8 hS6 hO5 hg5 hat5
                    have HK1 := Lib.hid (kinds_ok H0.out HSm.out)
                    have HK2 := Lib.hid (kinds_ok HD.out.2.1 HD.out.1)
                    have HK3 := Lib.hid (kinds_ok HMo.out.2 HMo.out.1)
                    have hsl1 : s.length ≤ 1000 := by omega
                    have hll1 : (l ++ [more]).length ≤ 1000 := by simp; omega
                    obtain ⟨x, hx⟩ : ∃ x, meantB l s = x := ⟨_, rfl⟩
                    obtain ⟨y, hy⟩ : ∃ y, holdsB more (getL more.name s) = y := ⟨_, rfl⟩
                    have HX := Lib.hid hx; clear hx
                    have HY := Lib.hid hy; clear hy
                    go_wp2_with fail
                    refine (meant_calls sp1 l _ s _ HT8.out.a HT8.out.o.rl h1000 hsl1 HK1.out HSv.out).mono ?_
                    rintro e W9 ⟨rfl, hb9⟩
                    rw [HX.out]
                    have HT9 := Lib.hid (HT8.out.below hb9)
                    replace HS3 := Lib.hid (HS3.out.below hb9); clear hb9
                    go_wp2_with fail
                    refine (meant_calls sp2 (dupL l.reverse) _ s _ HT9.out.b HT9.out.o.rl HD.out.2.2 hsl1 HK2.out HSv.out).mono ?_
                    rintro e W10 ⟨rfl, hb9⟩
                    rw [meant_dup, HX.out]
                    have HT10 := Lib.hid (HT9.out.below hb9)
                    replace HS3 := Lib.hid (HS3.out.below hb9); clear hb9
                    cases x with
                    | false =>
                      go_wp2_with fail
                      refine (meant_calls sp3 (l ++ [more]) _ s _ HS3.out HT10.out.o.rl hll1 hsl1 HK3.out HSv.out).mono ?_
                      rintro e W11 ⟨rfl, hb9⟩
                      rw [meant_more, HX.out, Bool.false_and]
                      have HT11 := Lib.hid (HT10.out.below hb9); clear hb9
                      go_wp2_with fail
                      go_ret
                      exact ⟨rfl, HT11.out.o.bel⟩
                    | true =>
                      go_wp2_with fail
                      refine (meant_calls sp3 (l ++ [more]) _ s _ HS3.out HT10.out.o.rl hll1 hsl1 HK3.out HSv.out).mono ?_
                      rintro e W11 ⟨rfl, hb9⟩
                      rw [meant_more, HX.out, HY.out, Bool.true_and]
                      have HT11 := Lib.hid (HT10.out.below hb9); clear hb9
                      cases y with
                      | false =>
                        go_wp2_with fail
                        go_ret
                        exact ⟨rfl, HT11.out.o.bel⟩
                      | true =>
                        go_wp2_with fail
                        refine (meant_calls sp1 l _ s _ HT11.out.a HT11.out.o.rl h1000 hsl1 HK1.out HSv.out).mono ?_
                        rintro e W12 ⟨rfl, hb9⟩
                        rw [HX.out]
                        have HT12 := Lib.hid (HT11.out.below hb9); clear hb9
                        go_wp2_with fail
                        go_ret
                        exact ⟨rfl, HT12.out.o.bel⟩
                  · rw [if_pos (by rfl)]
                    go_simp
                    refine hK _ _ (ord_keep hS1 ((Below.refl _ _).alloc (Nat.le_refl _) _)) (fun hS2 => ?_)
                    clear hK K
                    try simp only [Act.put, List.getElem_toArray, List.getElem_cons_zero, List.getElem_cons_succ, List.setIfInBounds_toArray, List.set_cons_zero, List.set_cons_succ]
                    have hOne := RowM.lit (W7.drew.alloc (.cells #[] 48)) [more] (by simp) #[.int .i64 more.kind, .string more.name, .string more.value] rfl
                    refine wpAnyH_ready (rs := [2]) (by kernel_rfl) (by simp) (AllReadyH.cons rfl (fun K hK => ?_) AllReadyH.nil)
                    rw [if_pos (by rfl)]
                    refine wp_appM (.tmp 76) (.tmp 77) rfl (hOw.alloc _) hS2.2.2.2.o.rm (by simp; omega) rfl rfl ?_
                    intro v2 w2 hO2 hg2 hat2
                    rw [List.nil_append] at hO2
                    have hOne2 := hOne.blk (hg2.block _ (by simp) (by simp [Value.ownBlock]))
                    rw [show (W7.drew.alloc (.cells #[] 48)).heap.size = W7.heap.size + 1 by simp] at hOne2
                    refine hK _ _ (ord_keep hS hO2.bel) (fun hS3 => ?_)
                    clear hK K
                    try simp only [Act.put, List.getElem_toArray, List.getElem_cons_zero, List.getElem_cons_succ, List.setIfInBounds_toArray, List.set_cons_zero, List.set_cons_succ]
                    refine wpAnyH_ready (rs := [5]) (by kernel_rfl) (by simp) (AllReadyH.cons rfl (fun K hK => ?_) AllReadyH.nil)
                    rw [if_pos (by rfl)]
                    refine wp_appM (.tmp 78) (.tmp 80) rfl hO2 hOne2 (by simp; omega) rfl (by rfl) ?_
                    intro v5 w5 hO5 hg5 hat5
                    refine hK _ _ (ord_keep hS hO5.bel) (fun hS6 => ?_)
                    clear hK K
                    try simp only [Act.put, List.getElem_toArray, List.getElem_cons_zero, List.getElem_cons_succ, List.setIfInBounds_toArray, List.set_cons_zero, List.set_cons_succ]
                    refine wpAnyH_ready (rs := [6]) (by kernel_rfl) (by simp) (AllReadyH.cons rfl (fun K hK => ?_) AllReadyH.nil)
                    rw [if_pos (by rfl)]
                    go_simp
                    go_at_call 27
                    refine (new_calls _ (l ++ [more]) _ (RowM.of_own hO5.own) (by simp; omega) HMo.out.1).mono ?_
                    rintro e W8 ⟨hb8, hok8, _⟩
                    obtain ⟨sp3, rfl, hset3⟩ := hok8 HMo.out.2
                    refine hK _ _ (ord_keep hS6 hb8) (fun hS => ?_)
                    clear hK K
                    try simp only [Act.put, List.getElem_toArray, List.getElem_cons_zero, List.getElem_cons_succ, List.setIfInBounds_toArray, List.set_cons_zero, List.set_cons_succ]
                    refine wpAnyH_take (i := 7) (v := .tuple #[.pointer (some ⟨sp3, 0, none⟩), .int .i64 0]) rfl (by kernel_rfl) (by kernel_rfl) (by kernel_rfl) (fun _ _ _ h => h) (Or.inl ⟨by rfl, fun w hSw => by obtain ⟨hw0, hw1, hw2, hw3⟩ := hSw; clear hS hw3; go_simp⟩) hS ?_
                    try simp only [Act.put, List.getElem_toArray, List.getElem_cons_zero, List.getElem_cons_succ, List.setIfInBounds_toArray, List.set_cons_zero, List.set_cons_succ]
                    refine wpAnyH_take (i := 8) (v := .pointer (some ⟨sp3, 0, none⟩)) rfl (by kernel_rfl) (by kernel_rfl) (by kernel_rfl) (fun _ _ _ h => h) (Or.inl ⟨by rfl, fun w hSw => by obtain ⟨hw0, hw1, hw2, hw3⟩ := hSw; clear hS hw3; go_simp⟩) hS ?_
                    try simp only [Act.put, List.getElem_toArray, List.getElem_cons_zero, List.getElem_cons_succ, List.setIfInBounds_toArray, List.set_cons_zero, List.set_cons_succ]
                    refine wpAnyH_take (i := 9) (v := .int .i64 0) rfl (by kernel_rfl) (by kernel_rfl) (by kernel_rfl) (fun _ _ _ h => h) (Or.inl ⟨by rfl, fun w hSw => by obtain ⟨hw0, hw1, hw2, hw3⟩ := hSw; clear hS hw3; go_simp⟩) hS ?_
                    try simp only [Act.put, List.getElem_toArray, List.getElem_cons_zero, List.getElem_cons_succ, List.setIfInBounds_toArray, List.set_cons_zero, List.set_cons_succ]
                    refine wpAnyH_take (i := 10) (v := .pointer (some ⟨sp3, 0, none⟩)) rfl (by kernel_rfl) (by kernel_rfl) (by kernel_rfl) (fun _ _ _ h => h) (Or.inl ⟨by rfl, fun w hSw => by obtain ⟨hw0, hw1, hw2, hw3⟩ := hSw; clear hS hw3; go_simp⟩) hS ?_
                    try simp only [Act.put, List.getElem_toArray, List.getElem_cons_zero, List.getElem_cons_succ, List.setIfInBounds_toArray, List.set_cons_zero, List.set_cons_succ]
                    refine wpAnyH_take (i := 11) (v := .int .i64 0) rfl (by kernel_rfl) (by kernel_rfl) (by kernel_rfl) (fun _ _ _ h => h) (Or.inl ⟨by rfl, fun w hSw => by obtain ⟨hw0, hw1, hw2, hw3⟩ := hSw; clear hS hw3; go_simp⟩) hS ?_
                    try simp only [Act.put, List.getElem_toArray, List.getElem_cons_zero, List.getElem_cons_succ, List.setIfInBounds_toArray, List.set_cons_zero, List.set_cons_succ]
                    refine wpAnyH_done (by kernel_rfl) ?_ _
                    have HT8 := Lib.hid hS.2.2.2
                    have HS3 := Lib.hid hset3
                    clear hS hset3 hok8 hb8 hS6 hO5 hg5 hat5
                    have HK1 := Lib.hid (kinds_ok H0.out HSm.out)
                    have HK2 := Lib.hid (kinds_ok HD.out.2.1 HD.out.1)
                    have HK3 := Lib.hid (kinds_ok HMo.out.2 HMo.out.1)
                    have hsl1 : s.length ≤ 1000 := by omega
                    have hll1 : (l ++ [more]).length ≤ 1000 := by simp; omega
                    obtain ⟨x, hx⟩ : ∃ x, meantB l s = x := ⟨_, rfl⟩
                    obtain ⟨y, hy⟩ : ∃ y, holdsB more (getL more.name s) = y := ⟨_, rfl⟩
                    have HX := Lib.hid hx; clear hx
                    have HY := Lib.hid hy; clear hy
                    go_wp2_with fail
                    refine (meant_calls sp1 l _ s _ HT8.out.a HT8.out.o.rl h1000 hsl1 HK1.out HSv.out).mono ?_
                    rintro e W9 ⟨rfl, hb9⟩
                    rw [HX.out]
                    have HT9 := Lib.hid (HT8.out.below hb9)
                    replace HS3 := Lib.hid (HS3.out.below hb9); clear hb9
                    go_wp2_with fail
                    refine (meant_calls sp2 (dupL l.reverse) _ s _ HT9.out.b HT9.out.o.rl HD.out.2.2 hsl1 HK2.out HSv.out).mono ?_
                    rintro e W10 ⟨rfl, hb9⟩
                    rw [meant_dup, HX.out]
                    have HT10 := Lib.hid (HT9.out.below hb9)
                    replace HS3 := Lib.hid (HS3.out.below hb9); clear hb9
                    cases x with
                    | false =>
                      go_wp2_with fail
                      refine (meant_calls sp3 (l ++ [more]) _ s _ HS3.out HT10.out.o.rl hll1 hsl1 HK3.out HSv.out).mono ?_
                      rintro e W11 ⟨rfl, hb9⟩
                      rw [meant_more, HX.out, Bool.false_and]
                      have HT11 := Lib.hid (HT10.out.below hb9); clear hb9
                      go_wp2_with fail
                      go_ret
                      exact ⟨rfl, HT11.out.o.bel⟩
                    | true =>
                      go_wp2_with fail
                      refine (meant_calls sp3 (l ++ [more]) _ s _ HS3.out HT10.out.o.rl hll1 hsl1 HK3.out HSv.out).mono ?_
                      rintro e W11 ⟨rfl, hb9⟩
                      rw [meant_more, HX.out, HY.out, Bool.true_and]
                      have HT11 := Lib.hid (HT10.out.below hb9); clear hb9
                      cases y with
                      | false =>
                        go_wp2_with fail
                        go_ret
                        exact ⟨rfl, HT11.out.o.bel⟩
                      | true =>
                        go_wp2_with fail
                        refine (meant_calls sp1 l _ s _ HT11.out.a HT11.out.o.rl h1000 hsl1 HK1.out HSv.out).mono ?_
                        rintro e W12 ⟨rfl, hb9⟩
                        rw [HX.out]
                        have HT12 := Lib.hid (HT11.out.below hb9); clear hb9
                        go_wp2_with fail
                        go_ret
                        exact ⟨rfl, HT12.out.o.bel⟩
                · rw [if_pos (by rfl)]
                  go_simp
                  have hba : Below W7.drew.heap.size W7.drew (W7.drew.alloc (.cells #[.int .i64 more.kind, .string more.name, .string more.value] 48)) := (Below.refl _ _).alloc (Nat.le_refl _) _
                  refine hK _ _ (ord_keep hS hba) (fun hS1 => ?_)
                  clear hK K
                  try simp only [Act.put, List.getElem_toArray, List.getElem_cons_zero, List.getElem_cons_succ, List.setIfInBounds_toArray, List.set_cons_zero, List.set_cons_succ]
                  have hOne := RowM.lit W7.drew [more] (by simp) #[.int .i64 more.kind, .string more.name, .string more.value] rfl
                  have hOw := OwnM.lit W7.drew _ W7.drew.heap.size hba (Nat.le_refl _)
                  rw [show (W7.drew.alloc (.cells #[.int .i64 more.kind, .string more.name, .string more.value] 48)).heap.size = W7.heap.size + 1 by simp] at hOw
                  refine wpAnyH_ready (rs := [0]) (by kernel_rfl) (by simp) (AllReadyH.cons rfl (fun K hK => ?_) AllReadyH.nil)
                  rw [if_pos (by rfl)]
                  go_simp
                  refine hK _ _ (ord_keep hS1 ((Below.refl _ _).alloc (Nat.le_refl _) _)) (fun hS2 => ?_)
                  clear hK K
                  try simp only [Act.put, List.getElem_toArray, List.getElem_cons_zero, List.getElem_cons_succ, List.setIfInBounds_toArray, List.set_cons_zero, List.set_cons_succ]
                  have hOneb := hOne.below ((Below.refl _ _).alloc (Nat.le_refl _) (.cells #[] 48))
                  refine wpAnyH_ready (rs := [2]) (by kernel_rfl) (by simp) (AllReadyH.cons rfl (fun K hK => ?_) AllReadyH.nil)
                  rw [if_pos (by rfl)]
                  refine wp_appM (.tmp 76) (.tmp 77) rfl hOw hS2.2.2.2.o.rm (by simp; omega) rfl (by rfl) ?_
                  intro v2 w2 hO2 hg2 hat2
                  rw [List.nil_append] at hO2
                  have hOne2 := hOneb.blk (hg2.block _ (by simp; omega) (by simp [Value.ownBlock]))
                  refine hK _ _ (ord_keep hS hO2.bel) (fun hS3 => ?_)
                  clear hK K
                  try simp only [Act.put, List.getElem_toArray, List.getElem_cons_zero, List.getElem_cons_succ, List.setIfInBounds_toArray, List.set_cons_zero, List.set_cons_succ]
                  refine wpAnyH_ready (rs := [5]) (by kernel_rfl) (by simp) (AllReadyH.cons rfl (fun K hK => ?_) AllReadyH.nil)
                  rw [if_pos (by rfl)]
                  refine wp_appM (.tmp 78) (.tmp 80) rfl hO2 hOne2 (by simp; omega) rfl rfl ?_
                  intro v5 w5 hO5 hg5 hat5
                  refine hK _ _ (ord_keep hS hO5.bel) (fun hS6 => ?_)
                  clear hK K
                  try simp only [Act.put, List.getElem_toArray, List.getElem_cons_zero, List.getElem_cons_succ, List.setIfInBounds_toArray, List.set_cons_zero, List.set_cons_succ]
                  refine wpAnyH_ready (rs := [6]) (by kernel_rfl) (by simp) (AllReadyH.cons rfl (fun K hK => ?_) AllReadyH.nil)
                  rw [if_pos (by rfl)]
                  go_simp
                  go_at_call 27
                  refine (new_calls _ (l ++ [more]) _ (RowM.of_own hO5.own) (by simp; omega) HMo.out.1).mono ?_
                  rintro e W8 ⟨hb8, hok8, _⟩
                  obtain ⟨sp3, rfl, hset3⟩ := hok8 HMo.out.2
                  refine hK _ _ (ord_keep hS6 hb8) (fun hS => ?_)
                  clear hK K
                  try simp only [Act.put, List.getElem_toArray, List.getElem_cons_zero, List.getElem_cons_succ, List.setIfInBounds_toArray, List.set_cons_zero, List.set_cons_succ]
                  refine wpAnyH_take (i := 7) (v := .tuple #[.pointer (some ⟨sp3, 0, none⟩), .int .i64 0]) rfl (by kernel_rfl) (by kernel_rfl) (by kernel_rfl) (fun _ _ _ h => h) (Or.inl ⟨by rfl, fun w hSw => by obtain ⟨hw0, hw1, hw2, hw3⟩ := hSw; clear hS hw3; go_simp⟩) hS ?_
                  try simp only [Act.put, List.getElem_toArray, List.getElem_cons_zero, List.getElem_cons_succ, List.setIfInBounds_toArray, List.set_cons_zero, List.set_cons_succ]
                  refine wpAnyH_take (i := 8) (v := .pointer (some ⟨sp3, 0, none⟩)) rfl (by kernel_rfl) (by kernel_rfl) (by kernel_rfl) (fun _ _ _ h => h) (Or.inl ⟨by rfl, fun w hSw => by obtain ⟨hw0, hw1, hw2, hw3⟩ := hSw; clear hS hw3; go_simp⟩) hS ?_
                  try simp only [Act.put, List.getElem_toArray, List.getElem_cons_zero, List.getElem_cons_succ, List.setIfInBounds_toArray, List.set_cons_zero, List.set_cons_succ]
                  refine wpAnyH_take (i := 9) (v := .int .i64 0) rfl (by kernel_rfl) (by kernel_rfl) (by kernel_rfl) (fun _ _ _ h => h) (Or.inl ⟨by rfl, fun w hSw => by obtain ⟨hw0, hw1, hw2, hw3⟩ := hSw; clear hS hw3; go_simp⟩) hS ?_
                  try simp only [Act.put, List.getElem_toArray, List.getElem_cons_zero, List.getElem_cons_succ, List.setIfInBounds_toArray, List.set_cons_zero, List.set_cons_succ]
                  refine wpAnyH_take (i := 10) (v := .pointer (some ⟨sp3, 0, none⟩)) rfl (by kernel_rfl) (by kernel_rfl) (by kernel_rfl) (fun _ _ _ h => h) (Or.inl ⟨by rfl, fun w hSw => by obtain ⟨hw0, hw1, hw2, hw3⟩ := hSw; clear hS hw3; go_simp⟩) hS ?_
                  try simp only [Act.put, List.getElem_toArray, List.getElem_cons_zero, List.getElem_cons_succ, List.setIfInBounds_toArray, List.set_cons_zero, List.set_cons_succ]
                  refine wpAnyH_take (i := 11) (v := .int .i64 0) rfl (by kernel_rfl) (by kernel_rfl) (by kernel_rfl) (fun _ _ _ h => h) (Or.inl ⟨by rfl, fun w hSw => by obtain ⟨hw0, hw1, hw2, hw3⟩ := hSw; clear hS hw3; go_simp⟩) hS ?_
                  try simp only [Act.put, List.getElem_toArray, List.getElem_cons_zero, List.getElem_cons_succ, List.setIfInBounds_toArray, List.set_cons_zero, List.set_cons_succ]
                  refine wpAnyH_done (by kernel_rfl) ?_ _
                  have HT8 := Lib.hid hS.2.2.2
                  have HS3 := Lib.hid hset3
                  clear hS hset3 hok8 hb8 hS6 hO5 hg5 hat5
                  have HK1 := Lib.hid (kinds_ok H0.out HSm.out)
                  have HK2 := Lib.hid (kinds_ok HD.out.2.1 HD.out.1)
                  have HK3 := Lib.hid (kinds_ok HMo.out.2 HMo.out.1)
                  have hsl1 : s.length ≤ 1000 := by omega
                  have hll1 : (l ++ [more]).length ≤ 1000 := by simp; omega
                  obtain ⟨x, hx⟩ : ∃ x, meantB l s = x := ⟨_, rfl⟩
                  obtain ⟨y, hy⟩ : ∃ y, holdsB more (getL more.name s) = y := ⟨_, rfl⟩
                  have HX := Lib.hid hx; clear hx
                  have HY := Lib.hid hy; clear hy
                  go_wp2_with fail
                  refine (meant_calls sp1 l _ s _ HT8.out.a HT8.out.o.rl h1000 hsl1 HK1.out HSv.out).mono ?_
                  rintro e W9 ⟨rfl, hb9⟩
                  rw [HX.out]
                  have HT9 := Lib.hid (HT8.out.below hb9)
                  replace HS3 := Lib.hid (HS3.out.below hb9); clear hb9
                  go_wp2_with fail
                  refine (meant_calls sp2 (dupL l.reverse) _ s _ HT9.out.b HT9.out.o.rl HD.out.2.2 hsl1 HK2.out HSv.out).mono ?_
                  rintro e W10 ⟨rfl, hb9⟩
                  rw [meant_dup, HX.out]
                  have HT10 := Lib.hid (HT9.out.below hb9)
                  replace HS3 := Lib.hid (HS3.out.below hb9); clear hb9
                  cases x with
                  | false =>
                    go_wp2_with fail
                    refine (meant_calls sp3 (l ++ [more]) _ s _ HS3.out HT10.out.o.rl hll1 hsl1 HK3.out HSv.out).mono ?_
                    rintro e W11 ⟨rfl, hb9⟩
                    rw [meant_more, HX.out, Bool.false_and]
                    have HT11 := Lib.hid (HT10.out.below hb9); clear hb9
                    go_wp2_with fail
                    go_ret
                    exact ⟨rfl, HT11.out.o.bel⟩
                  | true =>
                    go_wp2_with fail
                    refine (meant_calls sp3 (l ++ [more]) _ s _ HS3.out HT10.out.o.rl hll1 hsl1 HK3.out HSv.out).mono ?_
                    rintro e W11 ⟨rfl, hb9⟩
                    rw [meant_more, HX.out, HY.out, Bool.true_and]
                    have HT11 := Lib.hid (HT10.out.below hb9); clear hb9
                    cases y with
                    | false =>
                      go_wp2_with fail
                      go_ret
                      exact ⟨rfl, HT11.out.o.bel⟩
                    | true =>
                      go_wp2_with fail
                      refine (meant_calls sp1 l _ s _ HT11.out.a HT11.out.o.rl h1000 hsl1 HK1.out HSv.out).mono ?_
                      rintro e W12 ⟨rfl, hb9⟩
                      rw [HX.out]
                      have HT12 := Lib.hid (HT11.out.below hb9); clear hb9
                      go_wp2_with fail
                      go_ret
                      exact ⟨rfl, HT12.out.o.bel⟩
              · obtain ⟨j, rfl⟩ : ∃ j, k = j + 1 := ⟨k - 1, by omega⟩
                obtain rfl : z = (j : Int) := by omega
                clear hz
                obtain ⟨_, _, hv, hc⟩ := HTr.out.rm.val
                simp only [Value.slice.injEq, true_and] at hv
                obtain ⟨rfl, rfl⟩ := hv
                obtain ⟨b', o, rfl, hm⟩ := hc (by omega)
                obtain ⟨m, hmk⟩ : ∃ m, l[j]? = some m := ⟨_, List.getElem?_eq_getElem (by omega)⟩
                obtain ⟨c0, c1, c2⟩ := hm j m hmk
                have hjl : (j : Int) < (l.length : Int) := by omega
                have hdr : dupL (l.drop j).reverse = dupL (l.drop (j + 1)).reverse ++ [m, m] := by
                  obtain ⟨hlt, hmm⟩ := List.getElem?_eq_some_iff.1 hmk
                  rw [List.drop_eq_getElem_cons hlt, List.reverse_cons, dupL_snoc, hmm]
                have hll := H20.out (j + 1)
                have hnews := RowM.lit wr.drew [m, m] (by simp) #[.int .i64 m.kind, .string m.name, .string m.value, .int .i64 m.kind, .string m.name, .string m.value] rfl
                have hOa : OwnM W5 (wr.drew.alloc (.cells #[.int .i64 m.kind, .string m.name, .string m.value, .int .i64 m.kind, .string m.name, .string m.value] 48)) W5.heap.size vb (dupL (l.drop (j + 1)).reverse) :=
                  ⟨HO.out.own.alloc _, HO.out.bel.drew.alloc HO.out.bel.size _, Nat.le_refl _⟩
                have HDr := Lib.hid hdr; clear hdr
                have HNews := Lib.hid hnews; clear hnews
                have HOa := Lib.hid hOa; clear hOa
                have HMk := Lib.hid hmk; clear hmk hc hm
                go_wp2_with fail
                go_region_law (refine step_appM rfl (.tmp 54) (.tmp 63) rfl HOa.out HNews.out (by simp; omega) rfl rfl ?_; intro v2 w2 hO2 hg2 hat2)
                all_goals
                  rw [← HDr.out] at hO2
                  have HO2 := Lib.hid hO2; clear hO2 hg2 hat2
                  go_wp2_with fail
                  go_roundw
                  case rel => exact ⟨v2, j, (j : Int) - 1, rfl, by omega, rfl, rfl, HO2.out⟩
                  case measure => (simp [intOf] <;> omega)
          · have hne : ((errM [more] : Int) != 0) = true := by rw [bne_iff_ne]; omega
            clear h1
            go_wp2_with fail
            go_ret
            exact ⟨rfl, HT.out.bel⟩
        · have hne : ((errM l : Int) != 0) = true := by rw [bne_iff_ne]; omega
          clear h0
          go_wp2_with fail
          go_ret
          exact ⟨rfl, HT.out.bel⟩
end Go.Proofs.Ytokcffkffcfolaa.Ma
