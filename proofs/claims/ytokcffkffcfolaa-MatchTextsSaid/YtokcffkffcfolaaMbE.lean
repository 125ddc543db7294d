/-
  Texts of matchers: unlike ones of unlike matchers (plain).
  MatchTexts: any matcher's text; of unlike ones that may be it is unlike. The walk.
-/
import Derived.Test.YtokcffkffcfolaaMbD
import Derived.Test.YtokcffkffcfolaaMbB
namespace Go.Proofs.Ytokcffkffcfolaa.Ma
open Go Go.RowKit Go.Proofs.Ytokcffkffcfolaa.Rg

theorem hexU_inj {a b : Nat} (ha : a < 16) (hb : b < 16) (h : hexU a = hexU b) : a = b := by
  have : ∀ a b : Fin 16, hexU a.val = hexU b.val → a.val = b.val := by decide +kernel
  exact this ⟨a, ha⟩ ⟨b, hb⟩ h
theorem escQ_cases (c : UInt8) : (escQ c = [92, c] ∧ (c = 34 ∨ c = 92)) ∨ (escQ c = [c] ∧ c ≠ 34 ∧ c ≠ 92) ∨ (escQ c = [92, 120, hexU (c.toNat / 16), hexU (c.toNat % 16)] ∧ c ≠ 34 ∧ c ≠ 92) := by
  have e1 : c.toNat = 34 ↔ c = 34 := ⟨fun h => UInt8.toNat_inj.1 (by rw [h]; rfl), fun h => by rw [h]; rfl⟩
  have e2 : c.toNat = 92 ↔ c = 92 := ⟨fun h => UInt8.toNat_inj.1 (by rw [h]; rfl), fun h => by rw [h]; rfl⟩
  unfold escQ
  by_cases h : c.toNat = 34 ∨ c.toNat = 92
  · rw [if_pos h]
    exact .inl ⟨rfl, by rwa [e1, e2] at h⟩
  · rw [if_neg h]
    rw [e1, e2] at h
    have h1 : c ≠ 34 := fun e => h (.inl e)
    have h2 : c ≠ 92 := fun e => h (.inr e)
    by_cases hp : plainB c.toNat = true
    · rw [if_pos hp]; exact .inr (.inl ⟨rfl, h1, h2⟩)
    · rw [if_neg hp]; exact .inr (.inr ⟨rfl, h1, h2⟩)
theorem escQ_inj {c d : UInt8} {x y : List UInt8} (h : escQ c ++ x = escQ d ++ y) : c = d ∧ x = y := by
  have n1 : (92 : UInt8) ≠ 34 := by decide
  have n2 : (120 : UInt8) ≠ 34 := by decide
  have n3 : (120 : UInt8) ≠ 92 := by decide
  rcases escQ_cases c with ⟨hc, k⟩ | ⟨hc, k1, k2⟩ | ⟨hc, k1, k2⟩ <;> rcases escQ_cases d with ⟨hd, m⟩ | ⟨hd, m1, m2⟩ | ⟨hd, m1, m2⟩ <;> rw [hc, hd] at h <;> simp only [List.cons_append, List.nil_append, List.cons.injEq] at h
  · exact ⟨h.2.1, h.2.2⟩
  · exact absurd h.1.symm m2
  · rcases k with rfl | rfl
    · exact absurd h.2.1.symm n2
    · exact absurd h.2.1.symm n3
  · exact absurd h.1 k2
  · exact ⟨h.1, h.2⟩
  · exact absurd h.1 k2
  · rcases m with rfl | rfl
    · exact absurd h.2.1 n2
    · exact absurd h.2.1 n3
  · exact absurd h.1.symm m2
  · obtain ⟨_, _, h1, h2, h3⟩ := h
    have hc256 := UInt8.toNat_lt c
    have hd256 := UInt8.toNat_lt d
    have e1 := hexU_inj (by omega) (by omega) h1
    have e2 := hexU_inj (by omega) (by omega) h2
    exact ⟨UInt8.toNat_inj.1 (by omega), h3⟩
theorem escQ_no34 (c : UInt8) (x y : List UInt8) : escQ c ++ x ≠ 34 :: y := by
  intro h
  rcases escQ_cases c with ⟨hc, k⟩ | ⟨hc, k1, k2⟩ | ⟨hc, k1, k2⟩ <;> rw [hc] at h <;> simp only [List.cons_append, List.nil_append, List.cons.injEq] at h
  · exact absurd h.1 (by decide)
  · exact k1 h.1
  · exact absurd h.1 (by decide)
theorem quoteL_inj : ∀ {a b : List UInt8}, quoteL a ++ [34] = quoteL b ++ [34] → a = b
  | [], [], _ => rfl
  | [], d :: b, h => by
    simp only [quoteL, List.flatMap_cons, List.flatMap_nil, List.nil_append, List.append_assoc] at h
    exact absurd h.symm (escQ_no34 d _ _)
  | c :: a, [], h => by
    simp only [quoteL, List.flatMap_cons, List.flatMap_nil, List.nil_append, List.append_assoc] at h
    exact absurd h (escQ_no34 c _ _)
  | c :: a, d :: b, h => by
    simp only [quoteL, List.flatMap_cons, List.append_assoc] at h
    obtain ⟨h1, h2⟩ := escQ_inj h
    rw [h1, quoteL_inj h2]
/-- Words up to a byte that is none. -/
theorem words_inj : ∀ {a b x y : List UInt8} {c d : UInt8}, (a.all fun c => wordB c.toNat) = true → (b.all fun c => wordB c.toNat) = true → wordB c.toNat = false → wordB d.toNat = false → a ++ c :: x = b ++ d :: y → a = b ∧ c = d ∧ x = y
  | [], [], x, y, c, d, _, _, _, _, h => by
    simp only [List.nil_append, List.cons.injEq] at h
    exact ⟨rfl, h.1, h.2⟩
  | [], e :: b, x, y, c, d, _, hb, hc, _, h => by
    simp only [List.nil_append, List.cons_append, List.cons.injEq] at h
    simp only [List.all_cons, Bool.and_eq_true] at hb
    rw [h.1, hb.1] at hc
    cases hc
  | e :: a, [], x, y, c, d, ha, _, _, hd, h => by
    simp only [List.nil_append, List.cons_append, List.cons.injEq] at h
    simp only [List.all_cons, Bool.and_eq_true] at ha
    rw [← h.1, ha.1] at hd
    cases hd
  | e :: a, f :: b, x, y, c, d, ha, hb, hc, hd, h => by
    simp only [List.cons_append, List.cons.injEq] at h
    simp only [List.all_cons, Bool.and_eq_true] at ha hb
    obtain ⟨h1, h2, h3⟩ := words_inj ha.2 hb.2 hc hd h.2
    exact ⟨by rw [h.1, h1], h2, h3⟩
/-- The first byte of an operator, and what follows. -/
def opC (k : Int) : UInt8 := if k = 1 ∨ k = 3 then 61 else 33
def opT (k : Int) : List UInt8 := if k = 1 then [] else if k = 2 then [61] else [126]
theorem op_split {k : Int} (h1 : 1 ≤ k) (h4 : k ≤ 4) : (opOf k).data.toList = opC k :: opT k := by
  have : k = 1 ∨ k = 2 ∨ k = 3 ∨ k = 4 := by omega
  rcases this with rfl | rfl | rfl | rfl <;> rfl
theorem op_inj {k m : Int} (h1 : 1 ≤ k) (h4 : k ≤ 4) (m1 : 1 ≤ m) (m4 : m ≤ 4) {x y : List UInt8} (hc : opC k = opC m) (h : opT k ++ 34 :: x = opT m ++ 34 :: y) : k = m ∧ x = y := by
  have hk : k = 1 ∨ k = 2 ∨ k = 3 ∨ k = 4 := by omega
  have hm : m = 1 ∨ m = 2 ∨ m = 3 ∨ m = 4 := by omega
  rcases hk with rfl | rfl | rfl | rfl <;> rcases hm with rfl | rfl | rfl | rfl <;> simp [opC, opT] at hc h ⊢ <;> exact h
theorem bytes_eq {a b : ByteArray} (h : a.data.toList = b.data.toList) : a = b := by
  obtain ⟨⟨a⟩⟩ := a
  obtain ⟨⟨b⟩⟩ := b
  have h3 : a = b := h
  rw [h3]
theorem app_list (a b : ByteArray) : (a ++ b).data.toList = a.data.toList ++ b.data.toList := by simp [ByteArray.data_append]
theorem text_inj {a b : Mr} (ha : badM a = false) (hb : badM b = false) (h : textM a = textM b) : a = b := by
  obtain ⟨a1, a4, an⟩ := badM_kind ha
  obtain ⟨b1, b4, bn⟩ := badM_kind hb
  have hla : (a.name.data.toList.all fun c => wordB c.toNat) = true := by simp only [nameB, Bool.and_eq_true] at an; exact an.2
  have hlb : (b.name.data.toList.all fun c => wordB c.toNat) = true := by simp only [nameB, Bool.and_eq_true] at bn; exact bn.2
  have hw : ∀ k : Int, wordB (opC k).toNat = false := fun k => by unfold opC; split <;> rfl
  rw [textM, if_pos ⟨a1, a4⟩, textM, if_pos ⟨b1, b4⟩] at h
  have h2 := congrArg (fun s : ByteArray => s.data.toList) h
  simp only [app_list, op_split a1 a4, op_split b1 b4, List.append_assoc, List.cons_append] at h2
  obtain ⟨h3, h4, h5⟩ := words_inj hla hlb (hw _) (hw _) h2
  have h6 : opT a.kind ++ 34 :: (quoteL a.value.data.toList ++ [34]) = opT b.kind ++ 34 :: (quoteL b.value.data.toList ++ [34]) := h5
  obtain ⟨h7, h8⟩ := op_inj a1 a4 b1 b4 h4 h6
  have h9 := bytes_eq (quoteL_inj h8)
  have h10 := bytes_eq h3
  obtain ⟨ak, an', av⟩ := a
  obtain ⟨bk, bn', bv⟩ := b
  simp only at h7 h9 h10
  rw [h7, h9, h10]
end Go.Proofs.Ytokcffkffcfolaa.Ma
namespace Go.Proofs.Ytokcffkffcfolaa.Ma
open Go Go.RowKit Go.Proofs.Ytokcffkffcfolaa.Rg

/-- The two matchers' own cells. -/
def TwoB (w : World) (g : Nat) (a b : Mr) : Prop := w.heap[g]? = some (.cells #[.int .i64 a.kind, .string a.name, .string a.value] 48 (0, 0)) ∧ w.heap[g + 1]? = some (.cells #[.int .i64 b.kind, .string b.name, .string b.value] 48 (0, 0))
theorem TwoB.below {w w1 : World} {g : Nat} {a b : Mr} (h : TwoB w g a b) (hb : Below w.heap.size w w1) : TwoB w1 g a b :=
  ⟨(hb.block g (blk_lt h.1)).trans h.1, (hb.block (g + 1) (blk_lt h.2)).trans h.2⟩
theorem toList_inj {a b : ByteArray} (h : a.toList = b.toList) : a = b := by
  rw [ByteArray.toList_eq, ByteArray.toList_eq] at h
  exact bytes_eq h
theorem two_told {a b : Mr} (h : errM [a, b] = 0) : textM a = textM b ↔ a = b :=
  ⟨fun e => text_inj ((errM_all h).2 a (by simp)).1 ((errM_all h).2 b (by simp)).1 e, fun e => by rw [e]⟩
theorem few_two {a b : Mr} (h : fewB [a, b] = true) : (a.name.size ≤ 300 ∧ a.value.size ≤ 300) ∧ (b.name.size ≤ 300 ∧ b.value.size ≤ 300) := by
  simp [fewB, Mr.small] at h
  exact h
set_option maxRecDepth 100000 in
set_option maxHeartbeats 40000000 in
theorem texts_calls (a b : Mr) (W : World) : Calls Try.prog 9 #[.agg #[.int .i64 a.kind, .string a.name, .string a.value], .agg #[.int .i64 b.kind, .string b.name, .string b.value]] W (LawPost W) := by
  have hT : TwoB ((W.alloc (.cells #[.int .i64 a.kind, .string a.name, .string a.value] 48)).alloc (.cells #[.int .i64 b.kind, .string b.name, .string b.value] 48)) W.heap.size a b :=
    ⟨blk_alloc (blk_new W _) _, blk_new2 W _ _⟩
  have HT := Lib.hid hT; clear hT
  have HB := Lib.hid ((((Below.refl W.heap.size W).alloc (Nat.le_refl _) (.cells #[.int .i64 a.kind, .string a.name, .string a.value] 48))).alloc (by simp) (.cells #[.int .i64 b.kind, .string b.name, .string b.value] 48))
  go_enter Try.func9, Try.ntmps9
  go_wp2_with fail
  refine (knownM_calls _).mono ?_
  rintro q W1 ⟨rfl, hb1⟩
  replace HT := Lib.hid (HT.out.below hb1)
  replace HB := Lib.hid (after HB.out (Nat.le_refl _) hb1); clear hb1
  have a0 := blk_cell HT.out.1 0
  have a1 := blk_cell HT.out.1 1
  have a2 := blk_cell HT.out.1 2
  have b0 := blk_cell HT.out.2 0
  have b1 := blk_cell HT.out.2 1
  have b2 := blk_cell HT.out.2 2
  go_wp2_with fail
  clear a0 a1 a2 b0 b1 b2
  have hM := RowM.lit W1 [a, b] (by simp) #[.int .i64 a.kind, .string a.name, .string a.value, .int .i64 b.kind, .string b.name, .string b.value] rfl
  have hba := (Below.refl W1.heap.size W1).alloc (Nat.le_refl _) (.cells #[.int .i64 a.kind, .string a.name, .string a.value, .int .i64 b.kind, .string b.name, .string b.value] 48)
  replace HT := Lib.hid (HT.out.below hba)
  replace HB := Lib.hid (after HB.out (Nat.le_refl _) hba); clear hba
  cases hf : fewB [a, b] with
  | false =>
    have HF := Lib.hid hf; clear hf
    refine (few_calls (.slice (some ⟨W1.heap.size, 0, none⟩) 2 2) [a, b] _ hM (by unfold maxLen; simp) false HF.out).mono ?_
    rintro e W2 ⟨rfl, rfl⟩
    clear hM
    go_wp2_with fail
    go_ret
    exact ⟨rfl, HB.out⟩
  | true =>
    obtain ⟨hsa, hsb⟩ := few_two hf
    have HSa := Lib.hid hsa
    have HSb := Lib.hid hsb
    have HF := Lib.hid hf; clear hf hsa hsb
    refine (few_calls (.slice (some ⟨W1.heap.size, 0, none⟩) 2 2) [a, b] _ hM (by unfold maxLen; simp) true HF.out).mono ?_
    rintro e W2 ⟨rfl, rfl⟩
    clear hM
    have a0 := blk_cell HT.out.1 0
    have a1 := blk_cell HT.out.1 1
    have a2 := blk_cell HT.out.1 2
    have b0 := blk_cell HT.out.2 0
    have b1 := blk_cell HT.out.2 1
    have b2 := blk_cell HT.out.2 2
    go_wp2_with fail
    clear a0 a1 a2 b0 b1 b2
    refine (text_calls a HSa.out _).mono ?_
    rintro e W2 ⟨rfl, hb1⟩
    replace HT := Lib.hid (HT.out.below hb1)
    replace HB := Lib.hid (after HB.out (Nat.le_refl _) hb1); clear hb1
    have a0 := blk_cell HT.out.1 0
    have a1 := blk_cell HT.out.1 1
    have a2 := blk_cell HT.out.1 2
    have b0 := blk_cell HT.out.2 0
    have b1 := blk_cell HT.out.2 1
    have b2 := blk_cell HT.out.2 2
    go_wp2_with fail
    clear a0 a1 a2 b0 b1 b2
    refine (text_calls b HSb.out _).mono ?_
    rintro e W2 ⟨rfl, hb1⟩
    replace HT := Lib.hid (HT.out.below hb1)
    replace HB := Lib.hid (after HB.out (Nat.le_refl _) hb1); clear hb1
    have a0 := blk_cell HT.out.1 0
    have a1 := blk_cell HT.out.1 1
    have a2 := blk_cell HT.out.1 2
    have b0 := blk_cell HT.out.2 0
    have b1 := blk_cell HT.out.2 1
    have b2 := blk_cell HT.out.2 2
    go_wp2_with fail
    clear a0 a1 a2 b0 b1 b2
    refine (rtext_calls a HSa.out _).mono ?_
    rintro e W2 ⟨rfl, hb1⟩
    replace HT := Lib.hid (HT.out.below hb1)
    replace HB := Lib.hid (after HB.out (Nat.le_refl _) hb1); clear hb1
    have a0 := blk_cell HT.out.1 0
    have a1 := blk_cell HT.out.1 1
    have a2 := blk_cell HT.out.1 2
    have b0 := blk_cell HT.out.2 0
    have b1 := blk_cell HT.out.2 1
    have b2 := blk_cell HT.out.2 2
    go_wp2_with fail
    clear a0 a1 a2 b0 b1 b2
    refine (rtext_calls b HSb.out _).mono ?_
    rintro e W2 ⟨rfl, hb1⟩
    replace HT := Lib.hid (HT.out.below hb1)
    replace HB := Lib.hid (after HB.out (Nat.le_refl _) hb1); clear hb1
    obtain ⟨W5, hW5⟩ : ∃ w : World, w = W2 := ⟨_, rfl⟩
    subst hW5
    have a0 := blk_cell HT.out.1 0
    have a1 := blk_cell HT.out.1 1
    have a2 := blk_cell HT.out.1 2
    have b0 := blk_cell HT.out.2 0
    have b1 := blk_cell HT.out.2 1
    have b2 := blk_cell HT.out.2 2
    go_wp2_with fail
    clear a0 a1 a2 b0 b1 b2
    have hM := RowM.lit W5 [a, b] (by simp) #[.int .i64 a.kind, .string a.name, .string a.value, .int .i64 b.kind, .string b.name, .string b.value] rfl
    have hba := (Below.refl W5.heap.size W5).alloc (Nat.le_refl _) (.cells #[.int .i64 a.kind, .string a.name, .string a.value, .int .i64 b.kind, .string b.name, .string b.value] 48)
    replace HT := Lib.hid (HT.out.below hba)
    replace HB := Lib.hid (after HB.out (Nat.le_refl _) hba); clear hba
    refine (rcheck_calls (.slice (some ⟨W5.heap.size, 0, none⟩) 2 2) [a, b] _ hM (by simp) (by simp; exact ⟨HSa.out, HSb.out⟩)).mono ?_
    rintro e W2 ⟨rfl, hb1⟩
    replace HT := Lib.hid (HT.out.below hb1)
    replace HB := Lib.hid (after HB.out (Nat.le_refl _) hb1); clear hb1 hM
    by_cases h0 : errM [a, b] = 0
    · have hto := two_told h0
      rw [h0]
      have H0 := Lib.hid h0; clear h0
      by_cases hab : a = b
      · subst hab
        have a0 := blk_cell HT.out.1 0
        have a1 := blk_cell HT.out.1 1
        have a2 := blk_cell HT.out.1 2
        have b0 := blk_cell HT.out.2 0
        have b1 := blk_cell HT.out.2 1
        have b2 := blk_cell HT.out.2 2
        go_wp2_with fail
        go_ret
        exact ⟨rfl, HB.out⟩
      · have hne : ¬ textM a = textM b := fun h => hab (hto.1 h)
        have hn1 := bytes_ne hne
        have HNe := Lib.hid hne; clear hne hto
        have hab2 : ¬ (a.kind = b.kind ∧ a.name = b.name ∧ a.value = b.value) := by
          rintro ⟨h1, h2, h3⟩
          apply hab
          obtain ⟨ak, an, av⟩ := a
          obtain ⟨bk, bn, bv⟩ := b
          simp only at h1 h2 h3
          rw [h1, h2, h3]
        have HAb := Lib.hid hab2; clear hab hab2
        have a0 := blk_cell HT.out.1 0
        have a1 := blk_cell HT.out.1 1
        have a2 := blk_cell HT.out.1 2
        have b0 := blk_cell HT.out.2 0
        have b1 := blk_cell HT.out.2 1
        have b2 := blk_cell HT.out.2 2
        go_wp2_with fail
        all_goals
          first
            | exact absurd ⟨by assumption, toList_inj (by assumption), toList_inj (by assumption)⟩ HAb.out
            | (go_ret; exact ⟨rfl, HB.out⟩)
    · have hne : ((errM [a, b] : Int) != 0) = true := by rw [bne_iff_ne]; omega
      clear h0
      go_wp2_with fail
      go_ret
      exact ⟨rfl, HB.out⟩
end Go.Proofs.Ytokcffkffcfolaa.Ma
