/-
  The patterns' grammar, and the reader by it: plain facts on lists.
-/
import Derived.Test.YtokcffkffcfolaaRgS
namespace Go.Proofs.Ytokcffkffcfolaa.Rg
open Go

def nats (s : ByteArray) : List Nat := s.data.toList.map UInt8.toNat
theorem nats_length (s : ByteArray) : (nats s).length = s.size := by rw [nats, List.length_map, Array.length_toList]; rfl
def Rd.rest (r : Rd) : List Nat := (nats r.s).drop r.at_
/-- No error yet; w is to be read. -/
structure Rdy (r : Rd) (w : List Nat) : Prop where
  err : r.err = 0
  top : r.at_ ≤ r.s.size
  rest : r.rest = w
theorem Rd.rest_length (r : Rd) : r.rest.length = r.s.size - r.at_ := by rw [Rd.rest, List.length_drop, nats_length]
theorem Rdy.fuel {r : Rd} {w : List Nat} (h : Rdy r w) : r.fuel = w.length + 1 := by
  have := r.rest_length
  rw [h.rest] at this
  have := h.top
  unfold Rd.fuel
  omega
theorem Rdy.has_nil {r : Rd} (h : Rdy r []) : r.has = false := by
  have := r.rest_length
  rw [h.rest] at this
  have h2 := h.top
  simp [Rd.has]
  intro _
  simp at this; omega
theorem Rdy.lt {r : Rd} {c : Nat} {t : List Nat} (h : Rdy r (c :: t)) : r.at_ < r.s.size := by
  have := r.rest_length
  rw [h.rest] at this
  simp at this; omega
theorem Rdy.has {r : Rd} {c : Nat} {t : List Nat} (h : Rdy r (c :: t)) : r.has = true := (Rd.has_iff r).2 ⟨h.err, h.lt⟩
theorem Rdy.cur {r : Rd} {c : Nat} {t : List Nat} (h : Rdy r (c :: t)) : r.cur = c := by
  have h1 := h.rest
  have hl := h.lt
  rw [Rd.rest, List.drop_eq_getElem_cons (by rw [nats_length]; exact hl)] at h1
  have h2 := (List.cons.inj h1).1
  rw [Rd.cur, byteAt, dif_pos hl, ← h2]
  simp [nats]; rfl
theorem Rdy.adv {r : Rd} {c : Nat} {t : List Nat} (h : Rdy r (c :: t)) : Rdy r.adv t := by
  refine ⟨h.err, h.lt, ?_⟩
  have h1 := h.rest
  have hl := h.lt
  rw [Rd.rest, List.drop_eq_getElem_cons (by rw [nats_length]; exact hl)] at h1
  exact (List.cons.inj h1).2
theorem Rdy.isB {r : Rd} {c : Nat} {t : List Nat} (h : Rdy r (c :: t)) (d : Nat) : r.isB d = (c == d) := by rw [Rd.isB, h.has, h.cur]; rfl
theorem Rdy.isB_nil {r : Rd} (h : Rdy r []) (d : Nat) : r.isB d = false := by rw [Rd.isB, h.has_nil]; rfl
theorem Rdy.isR {r : Rd} {c : Nat} {t : List Nat} (h : Rdy r (c :: t)) : Rdy (r.isR c) t := by
  rw [Rd.isR, h.isB, if_pos (by simp)]; exact h.adv
theorem isR_no {r : Rd} {c : Nat} (h : r.isB c = false) : r.isR c = r := by rw [Rd.isR, if_neg (by rw [h]; simp)]
theorem Rdy.of {r : Rd} (h : r.err = 0) (ht : r.at_ ≤ r.s.size) : Rdy r r.rest := ⟨h, ht, rfl⟩
theorem Rdy.of_has {r : Rd} (h : r.has = true) : ∃ c t, Rdy r (c :: t) := by
  obtain ⟨h0, h1⟩ := (Rd.has_iff r).1 h
  refine ⟨_, _, h0, Nat.le_of_lt h1, List.drop_eq_getElem_cons (by rw [nats_length]; exact h1)⟩
theorem Rdy.lt256 {r : Rd} {c : Nat} {t : List Nat} (h : Rdy r (c :: t)) : c < 256 := by
  rw [← h.cur, Rd.cur, byteAt]
  split
  · exact UInt8.toNat_lt _
  · omega
theorem Rdy.put {r : Rd} {w : List Nat} (h : Rdy r w) (x : Inst) : Rdy (r.put x) w := ⟨h.err, h.top, h.rest⟩

/-! Escaped bytes, items, ranges. -/
theorem esc_read {r : Rd} {x c : Nat} {t which : List Nat} (h : Rdy r (x :: c :: t)) (hc : c ∈ which) : Rdy (r.escR which) t ∧ r.escV which = c := by
  have hb : r.escB which = true := by rw [Rd.escB, h.adv.has, h.adv.cur]; simpa using hc
  exact ⟨by rw [Rd.escR, if_pos hb]; exact h.adv.adv, by rw [Rd.escV, if_pos hb]; exact h.adv.cur⟩
theorem esc_sound {r : Rd} {x : Nat} {t which : List Nat} (h : Rdy r (x :: t)) (h0 : (r.escR which).err = 0) : ∃ c v, t = c :: v ∧ c ∈ which := by
  unfold Rd.escR at h0
  split at h0
  · rename_i hb
    simp only [Rd.escB, Bool.and_eq_true] at hb
    cases t with
    | nil => rw [h.adv.has_nil] at hb; cases hb.1
    | cons c v => rw [h.adv.cur] at hb; exact ⟨c, v, rfl, by simpa using hb.2⟩
  · exact absurd h0 (Rd.fail_err _ 2 _ (by decide))
inductive Itm : List Nat → Nat → Prop
  | plain {c} : c ≠ 92 → c ≠ 93 → c ≠ 45 → c ≠ 94 → Itm [c] c
  | esc {c} : c ∈ Rd.inside → Itm [92, c] c
theorem Itm.head {w : List Nat} {c : Nat} (h : Itm w c) : ∃ x v, w = x :: v ∧ x ≠ 93 ∧ x ≠ 45 ∧ x ≠ 94 := by
  cases h with
  | plain h1 h2 h3 h4 => exact ⟨_, _, rfl, h2, h3, h4⟩
  | esc => exact ⟨_, _, rfl, by decide, by decide, by decide⟩
theorem item_read {r : Rd} {w t : List Nat} {c : Nat} (h : Rdy r (w ++ t)) (hi : Itm w c) : Rdy r.itemR t ∧ r.itemV = c := by
  cases hi with
  | plain h1 h2 h3 h4 =>
    have h' : Rdy r (c :: t) := h
    have hn : ¬(r.cur = 93 ∨ r.cur = 45 ∨ r.cur = 94) := by rw [h'.cur]; omega
    exact ⟨by rw [Rd.itemR, if_pos h'.has, if_neg (by rw [h'.cur]; exact h1), if_neg hn]; exact h'.adv,
      by rw [Rd.itemV, if_pos h'.has, if_neg (by rw [h'.cur]; exact h1), if_neg hn]; exact h'.cur⟩
  | esc hc =>
    have h' : Rdy r (92 :: c :: t) := h
    have := esc_read h' hc
    exact ⟨by rw [Rd.itemR, if_pos h'.has, if_pos h'.cur]; exact this.1, by rw [Rd.itemV, if_pos h'.has, if_pos h'.cur]; exact this.2⟩
theorem item_sound {r : Rd} {w : List Nat} (h : Rdy r w) (h0 : r.itemR.err = 0) : ∃ u v c, w = u ++ v ∧ Itm u c := by
  cases w with
  | nil =>
    rw [Rd.itemR, if_neg (by rw [h.has_nil]; simp)] at h0
    exact absurd h0 (Rd.fail_err _ 2 _ (by decide))
  | cons c t =>
    rw [Rd.itemR, if_pos h.has, h.cur] at h0
    split at h0
    · rename_i hc
      subst hc
      obtain ⟨c, v, rfl, hm⟩ := esc_sound h h0
      exact ⟨[92, c], v, c, rfl, .esc hm⟩
    · split at h0
      · exact absurd h0 (Rd.fail_err _ 2 _ (by decide))
      · rename_i h1 h2
        exact ⟨[c], t, c, rfl, .plain h1 (by omega) (by omega) (by omega)⟩
inductive Rng : List Nat → Nat → Nat → Prop
  | one {w c} : Itm w c → Rng w c c
  | two {w v lo hi} : Itm w lo → Itm v hi → lo ≤ hi → Rng (w ++ 45 :: v) lo hi
theorem Rng.head {w : List Nat} {lo hi : Nat} (h : Rng w lo hi) : ∃ x v, w = x :: v ∧ x ≠ 93 ∧ x ≠ 45 ∧ x ≠ 94 := by
  cases h with
  | one h => exact h.head
  | two h _ _ => obtain ⟨x, v, rfl, hx⟩ := h.head; exact ⟨x, _, rfl, hx⟩
theorem range_read {r : Rd} {w t : List Nat} {lo hi c : Nat} (h : Rdy r (w ++ c :: t)) (hr : Rng w lo hi) (hc : c ≠ 45) : Rdy r.rangeR (c :: t) ∧ r.rangeLo = lo ∧ r.rangeHi = hi := by
  cases hr with
  | one hi =>
    obtain ⟨h1, h2⟩ := item_read h hi
    have hb : r.itemR.isB 45 = false := by rw [h1.isB]; simpa using hc
    exact ⟨by rw [Rd.rangeR, if_neg (by rw [hb]; simp), isR_no hb]; exact h1, h2, by rw [Rd.rangeHi, if_neg (by rw [hb]; simp)]; exact h2⟩
  | @two w v lo hi ha hb hle =>
    rw [List.append_assoc] at h
    obtain ⟨h1, h2⟩ := item_read h ha
    have h1' : Rdy r.itemR (45 :: (v ++ c :: t)) := h1
    have hb' : r.itemR.isB 45 = true := by rw [h1'.isB]; rfl
    obtain ⟨h3, h4⟩ := item_read h1'.isR hb
    have hn : ¬ (r.itemR.isR 45).itemV < r.itemV := by rw [h4, h2]; omega
    exact ⟨by rw [Rd.rangeR, if_pos hb', if_neg hn]; exact h3, h2, by rw [Rd.rangeHi, if_pos hb']; exact h4⟩
theorem range_sound {r : Rd} {w : List Nat} (h : Rdy r w) (h0 : r.rangeR.err = 0) : ∃ u v lo hi, w = u ++ v ∧ Rng u lo hi ∧ Rdy r.rangeR v ∧ r.rangeLo = lo ∧ r.rangeHi = hi := by
  have hi0 : r.itemR.err = 0 := by
    unfold Rd.rangeR at h0
    split at h0
    · split at h0
      · exact absurd h0 (Rd.fail_err _ 2 _ (by decide))
      · exact Rd.Ext_err0 ((Rd.isR_ext r.itemR 45).trans (Rd.itemR_ext _)) h0
    · exact Rd.Ext_err0 (Rd.isR_ext r.itemR 45) h0
  obtain ⟨u, v, lo, rfl, hu⟩ := item_sound h hi0
  obtain ⟨h1, h2⟩ := item_read h hu
  by_cases hb : r.itemR.isB 45 = true
  · cases v with
    | nil => rw [h1.isB_nil] at hb; cases hb
    | cons c v =>
      have hc : c = 45 := by rw [h1.isB] at hb; simpa using hb
      subst hc
      rw [Rd.rangeR, if_pos hb] at h0
      split at h0
      · exact absurd h0 (Rd.fail_err _ 2 _ (by decide))
      · rename_i hle
        obtain ⟨u2, v2, hi, rfl, hu2⟩ := item_sound h1.isR h0
        obtain ⟨h3, h4⟩ := item_read h1.isR hu2
        exact ⟨u ++ 45 :: u2, v2, lo, hi, by simp, .two hu hu2 (by rw [h4, h2] at hle; omega), by rw [Rd.rangeR, if_pos hb, if_neg hle]; exact h3, h2, by rw [Rd.rangeHi, if_pos hb]; exact h4⟩
  · exact ⟨u, v, lo, lo, rfl, .one hu, by rw [Rd.rangeR, if_neg hb, isR_no (by simpa using hb)]; exact h1, h2, by rw [Rd.rangeHi, if_neg hb]; exact h2⟩

/-! Sets. -/
inductive Its : List Nat → Bs → Bs → Prop
  | last {w lo hi S} : Rng w lo hi → Its w S (S.putRange lo hi)
  | more {w v lo hi S S'} : Rng w lo hi → Its v (S.putRange lo hi) S' → Its (w ++ v) S S'
theorem Its.head {w : List Nat} {S S' : Bs} (h : Its w S S') : ∃ x v, w = x :: v ∧ x ≠ 93 ∧ x ≠ 45 ∧ x ≠ 94 := by
  cases h with
  | last h => exact h.head
  | more h _ => obtain ⟨x, v, rfl, hx⟩ := h.head; exact ⟨x, _, rfl, hx⟩
theorem items_read : ∀ {w : List Nat} {S S' : Bs}, Its w S S' → ∀ {r : Rd} {t : List Nat} {n : Nat}, Rdy r (w ++ 93 :: t) → w.length ≤ n → Rdy (Rd.itemsR n r) t ∧ Rd.itemsS n r S = S' := by
  intro w S S' h
  induction h with
  | last hr =>
    intro r t n h hn
    obtain ⟨x, v, rfl, _⟩ := hr.head
    obtain ⟨n, rfl⟩ : ∃ m, n = m + 1 := ⟨n - 1, by simp at hn; omega⟩
    obtain ⟨h1, h2, h3⟩ := range_read h hr (by decide)
    have hb : ¬(r.rangeR.err = 0 ∧ r.rangeR.isB 93 = false) := by rw [h1.isB]; simp
    exact ⟨by rw [Rd.itemsR, if_neg hb]; exact h1.isR, by rw [Rd.itemsS, if_neg hb, h2, h3]⟩
  | more hr hs ih =>
    intro r t n h hn
    obtain ⟨x, v, rfl, _⟩ := hr.head
    obtain ⟨n, rfl⟩ : ∃ m, n = m + 1 := ⟨n - 1, by simp at hn; omega⟩
    obtain ⟨y, u, rfl, hy1, hy2, _⟩ := hs.head
    rw [List.append_assoc] at h
    obtain ⟨h1, h2, h3⟩ := range_read (c := y) (t := u ++ 93 :: t) h hr hy2
    have hb : r.rangeR.err = 0 ∧ r.rangeR.isB 93 = false := ⟨h1.err, by rw [h1.isB]; simpa using hy1⟩
    have := ih (r := r.rangeR) (t := t) (n := n) h1 (by simp at hn ⊢; omega)
    exact ⟨by rw [Rd.itemsR, if_pos hb]; exact this.1, by rw [Rd.itemsS, if_pos hb, h2, h3]; exact this.2⟩
theorem items_sound : ∀ (n : Nat) (r : Rd) (w : List Nat) (S : Bs), Rdy r w → w.length < n → (Rd.itemsR n r).err = 0 → ∃ u v S', w = u ++ 93 :: v ∧ Its u S S'
  | 0, r, w, S, h, hn, h0 => by omega
  | n + 1, r, w, S, h, hn, h0 => by
    have hr0 : r.rangeR.err = 0 := by
      unfold Rd.itemsR at h0
      split at h0
      · rename_i hb; exact hb.1
      · exact Rd.Ext_err0 (Rd.isR_ext _ _) h0
    obtain ⟨u, v, lo, hi, rfl, hr, h1, h2, h3⟩ := range_sound h hr0
    by_cases hb : r.rangeR.isB 93 = true
    · cases v with
      | nil => rw [h1.isB_nil] at hb; cases hb
      | cons c v =>
        have hc : c = 93 := by rw [h1.isB] at hb; simpa using hb
        subst hc
        exact ⟨u, v, _, rfl, .last hr⟩
    · rw [Rd.itemsR, if_pos ⟨hr0, by simpa using hb⟩] at h0
      obtain ⟨x, u, rfl, _⟩ := hr.head
      obtain ⟨u2, v2, S', rfl, hs⟩ := items_sound n r.rangeR v (S.putRange lo hi) h1 (by simp at hn; omega) h0
      exact ⟨x :: u ++ u2, v2, S', by simp, .more hr hs⟩
/-- A set in brackets. -/
inductive Cls : List Nat → Bs → Prop
  | is {w S} : Its w .zero S → Cls (91 :: (w ++ [93])) S
  | isnt {w S} : Its w .zero S → Cls (91 :: 94 :: (w ++ [93])) S.neg
theorem class_read {r : Rd} {w t : List Nat} {S : Bs} (h : Rdy r (w ++ t)) (hc : Cls w S) : Rdy r.class_ t ∧ r.class_.l = r.l ++ [⟨0, S, 0, 0⟩] := by
  have key : ∀ {u : List Nat} {S' : Bs}, Its u .zero S' → Rdy r.classI (u ++ 93 :: t) → Rdy r.class_ t ∧ r.class_.l = r.l ++ [⟨0, if r.classN then S'.neg else S', 0, 0⟩] := by
    intro u S' hi h1
    have h2 := items_read hi h1 (n := r.classI.fuel) (by rw [h1.fuel]; simp; omega)
    refine ⟨h2.1.put _, ?_⟩
    have hl : (Rd.itemsR r.classI.fuel r.classI).l = r.l := ((Rd.isR_ext r.adv 94).trans (Rd.itemsR_ext r.classI r.classI.fuel)).l
    rw [Rd.class_, Rd.put, hl, Rd.classS, h2.2]
  cases hc with
  | @is w S hi =>
    rw [List.cons_append, List.append_assoc] at h
    obtain ⟨x, v, rfl, _, _, hx⟩ := hi.head
    have hn : r.adv.isB 94 = false := by rw [Rdy.isB (c := x) (t := v ++ ([93] ++ t)) h.adv]; simpa using hx
    have hN : r.classN = false := hn
    have hI : r.classI = r.adv := isR_no hn
    have := key hi (by rw [hI]; exact h.adv)
    rw [hN] at this
    exact this
  | @isnt w S hi =>
    rw [List.cons_append, List.cons_append, List.append_assoc] at h
    have hN : r.classN = true := by rw [Rd.classN, h.adv.isB]; rfl
    have := key hi h.adv.isR
    rw [hN] at this
    exact this
theorem class_sound {r : Rd} {w : List Nat} (h : Rdy r (91 :: w)) (h0 : r.class_.err = 0) : ∃ u v S, 91 :: w = u ++ v ∧ Cls u S := by
  have h1 : (Rd.itemsR r.classI.fuel r.classI).err = 0 := h0
  by_cases hn : r.adv.isB 94 = true
  · cases w with
    | nil => rw [h.adv.isB_nil] at hn; cases hn
    | cons c w =>
      have hc : c = 94 := by rw [h.adv.isB] at hn; simpa using hn
      subst hc
      have hr : Rdy r.classI w := h.adv.isR
      obtain ⟨u, v, S, rfl, hi⟩ := items_sound _ r.classI w .zero hr (by rw [hr.fuel]; omega) h1
      exact ⟨_, v, _, by simp, .isnt hi⟩
  · have hI : r.classI = r.adv := isR_no (by simpa using hn)
    have hr : Rdy r.classI w := by rw [hI]; exact h.adv
    obtain ⟨u, v, S, rfl, hi⟩ := items_sound _ r.classI w .zero hr (by rw [hr.fuel]; omega) h1
    exact ⟨_, v, _, by simp, .is hi⟩
end Go.Proofs.Ytokcffkffcfolaa.Rg
