/-
  RegexEscapes: a text that is escaped is a pattern of just that text; of any pattern whether it is one, and of which text.
-/
import Derived.Test.YtokcffkffcfolaaRiA
namespace Go.Proofs.Ytokcffkffcfolaa.Rh
open Go Go.RowKit Go.Proofs.Ytokcffkffcfolaa.Rg

theorem nats_inj {a b : ByteArray} (h : nats a = nats b) : a = b := by
  obtain ⟨⟨a⟩⟩ := a
  obtain ⟨⟨b⟩⟩ := b
  have : a = b := by
    have h' : a.map UInt8.toNat = b.map UInt8.toNat := h
    clear h
    induction a generalizing b with
    | nil =>
      cases b with
      | nil => rfl
      | cons y b => simp at h'
    | cons x a ih =>
      cases b with
      | nil => simp at h'
      | cons y b =>
        simp only [List.map_cons, List.cons.injEq] at h'
        rw [UInt8.toNat_inj.1 h'.1, ih b h'.2]
  rw [this]
/-- What is known of an escaped text. -/
structure EscTold (x s other : ByteArray) : Prop where
  ok : errOf x = 0
  lit : litR x = (s, true)
  self : matches_ x s = true
  other : matches_ x other = decide (other = s)
theorem esc_told (s other : ByteArray) (hs : s.size ≤ 300) : EscTold (escS s) s other := by
  have hz := escS_size s
  have ho := (comp_of (by omega) (esc_alts s)).elim (·.1) (fun h => absurd h.2 (by decide))
  have hm : ∀ b : ByteArray, matches_ (escS s) b = true ↔ b = s := fun b => by
    rw [lang_of ho (esc_alts s), lit_lang _ _ (nats_lt s) (nats_lt b)]
    exact ⟨nats_inj, fun h => by rw [h]⟩
  refine ⟨ho, ?_, (hm s).2 rfl, ?_⟩
  · have : litU (escS s).data.toList = some s.data.toList := litU_escL _
    rw [litR_some ho this]
  · rw [Bool.eq_iff_iff, hm, decide_eq_true_iff]

set_option maxRecDepth 100000 in
set_option maxHeartbeats 40000000 in
theorem escapes_calls (s other pattern : ByteArray) (hs : s.size ≤ maxLen) (ho : other.size ≤ maxLen) (hp : pattern.size ≤ maxLen) (W : World) :
    Calls Try.prog 8 #[.string s, .string other, .string pattern] W (LawPost W) := by
  unfold maxLen at hs ho hp
  go_enter Try.func8, Try.ntmps8
  go_wp2_with fail
  refine (known_calls _).mono ?_
  rintro q W1 ⟨rfl, hb1⟩
  have HB := Lib.hid hb1; clear hb1
  by_cases h1 : 300 < s.size
  · go_wp2_with fail
    go_ret
    exact ⟨rfl, HB.out⟩
  by_cases h2 : 300 < other.size
  · go_wp2_with fail
    go_ret
    exact ⟨rfl, HB.out⟩
  by_cases h3 : 300 < pattern.size
  · go_wp2_with fail
    go_ret
    exact ⟨rfl, HB.out⟩
  have ht := esc_told s other (by omega)
  have hxz := escS_size s
  have HT := Lib.hid ht; clear ht
  go_wp2_with fail
  refine (escape_calls s (by omega) _).mono ?_
  rintro q W2 ⟨rfl, hb⟩
  replace HB := Lib.hid (after HB.out (Nat.le_refl _) hb); clear hb
  have hesd : (⟨(escL s.data.toList).toArray⟩ : ByteArray) = escS s := rfl
  have HEsd := Lib.hid hesd
  rw [hesd]
  clear hesd
  obtain ⟨x, hx⟩ : ∃ x, x = escS s := ⟨_, rfl⟩
  rw [← hx] at HT hxz HEsd ⊢
  clear hx
  have hxm : x.size ≤ maxLen := by unfold maxLen; omega
  have HXm := Lib.hid hxm; clear hxm
  go_wp2_with fail
  refine (comp_good HT.out.ok _ HXm.out).mono ?_
  rintro q W3 ⟨p, rfl, hm, hb⟩
  have HM := Lib.hid hm; clear hm
  replace HB := Lib.hid (after HB.out (Nat.le_refl _) hb); clear hb
  go_wp2_with fail
  refine (literal_calls x (by omega) _).mono ?_
  rintro q W4 ⟨rfl, hb⟩
  rw [HT.out.lit]
  replace HM := Lib.hid (HM.out.below hb)
  replace HB := Lib.hid (after HB.out (Nat.le_refl _) hb); clear hb
  go_wp2_with fail
  refine (literal_calls pattern (by omega) _).mono ?_
  rintro q W5 ⟨rfl, hb⟩
  replace HM := Lib.hid (HM.out.below hb)
  replace HB := Lib.hid (after HB.out (Nat.le_refl _) hb); clear hb
  go_wp2_with fail
  refine (rliteral_calls pattern (by omega) _).mono ?_
  rintro q W6 ⟨rfl, hb⟩
  replace HM := Lib.hid (HM.out.below hb)
  replace HB := Lib.hid (after HB.out (Nat.le_refl _) hb); clear hb
  obtain ⟨⟨la, lb⟩, hl⟩ : ∃ l, l = litR pattern := ⟨_, rfl⟩
  rw [← hl]
  clear hl
  dsimp only
  go_wp2_with fail
  refine (rescape_calls s (by omega) _).mono ?_
  rintro q W7 ⟨rfl, hb⟩
  rw [HEsd.out]
  replace HM := Lib.hid (HM.out.below hb)
  replace HB := Lib.hid (after HB.out (Nat.le_refl _) hb); clear hb
  have zs : s.size ≤ 140737488351232 := by omega
  have zo : other.size ≤ 140737488351232 := by omega
  have F0 := Lib.hid HT.out.self
  have hf1 := HT.out.other
  clear HT HEsd
  by_cases he : other = s
  · subst he
    have F1 := Lib.hid (hf1.trans (show _ = true from by simp)); clear hf1
    go_wp2_with fail
    refine (HM.out.match_calls (b := other) F0.out zo).mono ?_
    rintro q W8 ⟨rfl, hb⟩
    replace HM := Lib.hid (HM.out.below hb)
    replace HB := Lib.hid (after HB.out (Nat.le_refl _) hb); clear hb
    go_wp2_with fail
    refine (HM.out.match_calls (b := other) F1.out zo).mono ?_
    rintro q W9 ⟨rfl, hb⟩
    replace HB := Lib.hid (after HB.out (Nat.le_refl _) hb); clear hb
    go_wp2_with fail
    go_ret
    exact ⟨rfl, HB.out⟩
  · have F1 := Lib.hid (hf1.trans (show _ = false by simpa using he)); clear hf1
    have hb2 : ¬ s = other := fun h => he h.symm
    have hb1 : (s.toList == other.toList) = false := by
      rw [beq_eq_false_iff_ne]
      intro h
      rw [ByteArray.toList_eq, ByteArray.toList_eq] at h
      exact hb2 (nats_inj (by unfold nats; rw [h]))
    clear he hb2
    go_wp2_with fail
    refine (HM.out.match_calls (b := s) F0.out zs).mono ?_
    rintro q W8 ⟨rfl, hb⟩
    replace HM := Lib.hid (HM.out.below hb)
    replace HB := Lib.hid (after HB.out (Nat.le_refl _) hb); clear hb
    go_wp2_with fail
    refine (HM.out.match_calls (b := other) F1.out zo).mono ?_
    rintro q W9 ⟨rfl, hb⟩
    replace HB := Lib.hid (after HB.out (Nat.le_refl _) hb); clear hb
    go_wp2_with fail
    go_ret
    exact ⟨rfl, HB.out⟩
end Go.Proofs.Ytokcffkffcfolaa.Rh
