/-
  Plain facts on the reader: how much it may write, and where its jumps go.
-/
import Derived.Test.YtnbgigdloehbjaaGreatDoorRgP
namespace Go.Proofs.YtnbgigdloehbjaaGreatDoor.Rg
open Go

/-- The text is short, the program no longer than twice what was read, its jumps stay in it. -/
structure Good (r : Rd) : Prop where
  top : r.at_ ≤ r.s.size
  sz : r.s.size ≤ 4096
  len : r.l.length ≤ 2 * r.at_
  tgt : ∀ x ∈ r.l, x.a ≤ r.l.length ∧ x.b ≤ r.l.length

/-- r' is r further on, with more written. -/
structure Nxt (r r' : Rd) : Prop where
  s : r'.s = r.s
  deep : r'.deep = r.deep
  le : r.at_ ≤ r'.at_
  top : r.at_ ≤ r.s.size → r'.at_ ≤ r.s.size
  mono : r.l.length ≤ r'.l.length
  len : r'.l.length + 2 * r.at_ ≤ r.l.length + 2 * r'.at_
  tgt : (∀ x ∈ r.l, x.a ≤ r.l.length ∧ x.b ≤ r.l.length) → ∀ x ∈ r'.l, x.a ≤ r'.l.length ∧ x.b ≤ r'.l.length
  err : r.err ≠ 0 → r'.err = r.err ∧ r'.bad = r.bad ∧ r'.at_ = r.at_

theorem Nxt.refl (r : Rd) : Nxt r r := ⟨rfl, rfl, Nat.le_refl _, id, Nat.le_refl _, Nat.le_refl _, id, fun _ => ⟨rfl, rfl, rfl⟩⟩
theorem Nxt.trans {a b c : Rd} (h : Nxt a b) (k : Nxt b c) : Nxt a c :=
  ⟨k.s.trans h.s, k.deep.trans h.deep, Nat.le_trans h.le k.le, fun ht => by
    have h1 := h.top ht
    rw [← h.s] at h1 ⊢
    exact k.top h1, Nat.le_trans h.mono k.mono, by have := h.len; have := k.len; omega, fun ht => k.tgt (h.tgt ht), fun he => by
    obtain ⟨e1, e2, e3⟩ := h.err he
    obtain ⟨f1, f2, f3⟩ := k.err (by rw [e1]; exact he)
    exact ⟨f1.trans e1, f2.trans e2, f3.trans e3⟩⟩
theorem Nxt.good {a b : Rd} (h : Nxt a b) (hg : Good a) : Good b :=
  ⟨by rw [h.s]; exact h.top hg.top, by rw [h.s]; exact hg.sz, by have := h.len; have := hg.len; omega, h.tgt hg.tgt⟩
theorem Ext.nxt {a b : Rd} (h : Ext a b) : Nxt a b :=
  ⟨h.s, h.deep, h.le, h.top, by rw [h.l]; exact Nat.le_refl _, by rw [h.l]; have := h.le; omega, by rw [h.l]; exact id, h.err⟩
/-- Read on, then one is put. -/
theorem Ext.put {a b : Rd} (h : Ext a b) (hlt : a.at_ < b.at_) (x : Inst) (hx : x.a ≤ a.l.length + 1 ∧ x.b ≤ a.l.length + 1) (he : a.err = 0) : Nxt a (b.put x) :=
  ⟨h.s, h.deep, h.le, h.top, by simp [Rd.put, h.l], by simp [Rd.put, h.l]; omega, fun ht y hy => by
    simp only [Rd.put, h.l, List.mem_append, List.mem_singleton, List.length_append, List.length_singleton] at hy ⊢
    rcases hy with hy | rfl
    · have := ht y hy; omega
    · exact hx, fun h' => absurd he h'⟩
namespace Rd
variable (r : Rd)
theorem class_nxt (h : r.has = true) : Nxt r r.class_ := by
  have he := ((has_iff r).1 h).1
  have h1 := (adv_ext r h).trans ((isR_ext r.adv 94).trans (itemsR_ext r.classI r.classI.fuel))
  refine h1.put ?_ _ ⟨by simp, by simp⟩ he
  have h2 := ((isR_ext r.adv 94).trans (itemsR_ext r.classI r.classI.fuel)).le
  have : r.adv.at_ = r.at_ + 1 := rfl
  have h3 : r.classI = r.adv.isR 94 := rfl
  omega
theorem atom_nxt (grp : Rd → Rd) (hg : ∀ q : Rd, q.has = true → Nxt q (grp q)) (h : r.has = true) : Nxt r (r.atom grp) := by
  have he := ((has_iff r).1 h).1
  unfold atom
  split
  · exact class_nxt r h
  · split
    · exact hg r h
    · split
      · exact (adv_ext r h).put (Nat.lt_succ_self _) _ ⟨by simp, by simp⟩ he
      · split
        · exact (escR_ext r _ h).put (escR_at r _) _ ⟨by simp, by simp⟩ he
        · exact (adv_ext r h).put (Nat.lt_succ_self _) _ ⟨by simp, by simp⟩ he
/-- An atom goes on, or there is an error. -/
theorem atom_go (grp : Rd → Rd) (hg : ∀ q : Rd, q.has = true → (grp q).err = 0 → q.at_ < (grp q).at_) (h : r.has = true) (h0 : (r.atom grp).err = 0) : r.at_ < (r.atom grp).at_ := by
  unfold atom at *
  split
  · have h2 := ((isR_ext r.adv 94).trans (itemsR_ext r.classI r.classI.fuel)).le
    have : r.adv.at_ = r.at_ + 1 := rfl
    have h3 : r.classI = r.adv.isR 94 := rfl
    have h4 : r.class_.at_ = (itemsR r.classI.fuel r.classI).at_ := rfl
    omega
  · rename_i h1
    rw [if_neg h1] at h0
    split
    · rename_i h2
      rw [if_pos h2] at h0
      exact hg r h h0
    · split
      · exact Nat.lt_succ_self _
      · split
        · exact escR_at r _
        · exact Nat.lt_succ_self _
theorem shift_length (p : Nat) (hp : p ≤ r.l.length) : (r.shift p).l.length = r.l.length + 1 := by
  simp [shift]; omega
theorem bump_tgt (x : Inst) (n : Nat) (h : x.a ≤ n ∧ x.b ≤ n) : (bump x).a ≤ n + 1 ∧ (bump x).b ≤ n + 1 := by
  unfold bump
  split
  · exact ⟨Nat.succ_le_succ h.1, Nat.succ_le_succ h.2⟩
  · omega
theorem shift_tgt (p : Nat) (ht : ∀ x ∈ r.l, x.a ≤ r.l.length ∧ x.b ≤ r.l.length) : ∀ x ∈ (r.shift p).l, x.a ≤ r.l.length + 1 ∧ x.b ≤ r.l.length + 1 := by
  intro x hx
  simp only [shift, List.mem_append, List.mem_cons, List.mem_map] at hx
  rcases hx with hx | rfl | ⟨y, hy, rfl⟩
  · have := ht x (List.mem_of_mem_take hx); omega
  · rcases Nat.lt_or_ge p r.l.length with h | h
    · have := ht _ (List.getElem_mem h)
      simp only [List.getD, List.getElem?_eq_getElem h, Option.getD_some]
      omega
    · simp [List.getD, List.getElem?_eq_none h]
  · exact bump_tgt y _ (ht y (List.mem_of_mem_drop hy))
theorem setAt_mem {p : Nat} {x y : Inst} (h : y ∈ (r.setAt p x).l) : y ∈ r.l ∨ y = x := List.mem_or_eq_of_mem_set h
/-- A shift and what is put behind it. -/
theorem many_nxt (p : Nat) (hp : p ≤ r.l.length) : Nxt r (r.many p) := by
  unfold many
  split
  · rename_i h
    have hh := (isB_has r h).1
    have hx := isR_ext r 43
    exact hx.put (by rw [isR_at r h]; omega) _ ⟨by simp; omega, by simp [hx.l]⟩ ((has_iff r).1 hh).1
  · split
    · rename_i h
      have hh := (isB_has r h).1
      have he := ((has_iff r).1 hh).1
      have hx := isR_ext r 63
      have ha := isR_at r h
      have hl : ((r.isR 63).shift p).l.length = r.l.length + 1 := by rw [shift_length _ _ (by rw [hx.l]; exact hp), hx.l]
      refine ⟨hx.s, hx.deep, hx.le, hx.top, ?_, ?_, ?_, fun h' => absurd he h'⟩
      · simp [setAt, hl]
      · show _ ≤ r.l.length + 2 * (r.isR 63).at_
        simp [setAt, hl]; omega
      · intro ht x hm
        have hlen : (((r.isR 63).shift p).setAt p ⟨1, .zero, p + 1, ((r.isR 63).shift p).l.length⟩).l.length = r.l.length + 1 := by simp [setAt, hl]
        rw [hlen]
        rcases setAt_mem _ hm with hm | rfl
        · have := shift_tgt (r.isR 63) p (by rw [hx.l]; exact ht) x hm
          rw [hx.l] at this; exact this
        · exact ⟨by simp; omega, by simp [hl]⟩
    · split
      · rename_i h
        have hh := (isB_has r h).1
        have he := ((has_iff r).1 hh).1
        have hx := isR_ext r 42
        have ha := isR_at r h
        have hl0 : ((r.isR 42).shift p).l.length = r.l.length + 1 := by rw [shift_length _ _ (by rw [hx.l]; exact hp), hx.l]
        have hl : (((r.isR 42).shift p).put ⟨2, .zero, p, 0⟩).l.length = r.l.length + 2 := by simp [put, hl0]
        refine ⟨hx.s, hx.deep, hx.le, hx.top, ?_, ?_, ?_, fun h' => absurd he h'⟩
        · simp [setAt, hl]
        · show _ ≤ r.l.length + 2 * (r.isR 42).at_
          simp [setAt, hl]; omega
        · intro ht x hm
          have hlen : ((((r.isR 42).shift p).put ⟨2, .zero, p, 0⟩).setAt p ⟨1, .zero, p + 1, (((r.isR 42).shift p).put ⟨2, .zero, p, 0⟩).l.length⟩).l.length = r.l.length + 2 := by simp [setAt, hl]
          rw [hlen]
          rcases setAt_mem _ hm with hm | rfl
          · simp only [put, List.mem_append, List.mem_singleton] at hm
            rcases hm with hm | rfl
            · have := shift_tgt (r.isR 42) p (by rw [hx.l]; exact ht) x hm
              rw [hx.l] at this; omega
            · exact ⟨by simp; omega, by simp⟩
          · exact ⟨by simp; omega, by simp [hl]⟩
      · exact Nxt.refl r
theorem pieces_nxt (grp : Rd → Rd) (hg : ∀ q : Rd, q.has = true → Nxt q (grp q)) : ∀ (n : Nat) (r : Rd), Nxt r (pieces grp n r)
  | 0, r => Nxt.refl r
  | n + 1, r => by
    unfold pieces
    split
    · exact Nxt.refl r
    · rename_i h
      have hh : r.has = true := by simp [stops] at h; exact h.1.1
      split
      · exact (fail_ext r _ _).nxt
      · have h1 := atom_nxt r grp hg hh
        exact (h1.trans (many_nxt _ _ h1.mono)).trans (pieces_nxt grp hg n _)
theorem altOnce_nxt (q : Rd) (p : Nat) (h : q.isB 124 = true) (hp : p ≤ q.l.length) : Nxt q (q.altOnce p) := by
  have hh := (isB_has q h).1
  have he := ((has_iff q).1 hh).1
  have hx := isR_ext q 124
  have ha := isR_at q h
  have hl0 : ((q.isR 124).shift p).l.length = q.l.length + 1 := by rw [shift_length _ _ (by rw [hx.l]; exact hp), hx.l]
  have hl : (((q.isR 124).shift p).put ⟨2, .zero, 0, 0⟩).l.length = q.l.length + 2 := by simp [put, hl0]
  unfold altOnce
  refine ⟨hx.s, hx.deep, hx.le, hx.top, ?_, ?_, ?_, fun h' => absurd he h'⟩
  · simp [setAt, hl]
  · show _ ≤ q.l.length + 2 * (q.isR 124).at_
    simp [setAt, hl]; omega
  · intro ht x hm
    have hlen : ((((q.isR 124).shift p).put ⟨2, .zero, 0, 0⟩).setAt p ⟨1, .zero, p + 1, (((q.isR 124).shift p).put ⟨2, .zero, 0, 0⟩).l.length⟩).l.length = q.l.length + 2 := by simp [setAt, hl]
    rw [hlen]
    rcases setAt_mem _ hm with hm | rfl
    · simp only [put, List.mem_append, List.mem_singleton] at hm
      rcases hm with hm | rfl
      · have := shift_tgt (q.isR 124) p (by rw [hx.l]; exact ht) x hm
        rw [hx.l] at this; omega
      · exact ⟨by simp, by simp⟩
    · exact ⟨by simp; omega, by simp [hl]⟩
theorem altsR_nxt (grp : Rd → Rd) (hg : ∀ q : Rd, q.has = true → Nxt q (grp q)) : ∀ (n : Nat) (r : Rd), Nxt r (altsR grp n r)
  | 0, r => Nxt.refl r
  | n + 1, r => by
    have h1 := pieces_nxt grp hg r.fuel r
    unfold altsR
    split
    · rename_i h
      exact (h1.trans (altOnce_nxt _ _ h h1.mono)).trans (altsR_nxt grp hg n _)
    · exact h1
theorem setA_length (v : Nat) : ∀ (o : List Nat) (l : List Inst), (setA l v o).length = l.length
  | [], l => rfl
  | p :: o, l => by rw [setA, setA_length v o]; simp
theorem setA_tgt (v n : Nat) (hv : v ≤ n) : ∀ (o : List Nat) (l : List Inst), (∀ x ∈ l, x.a ≤ n ∧ x.b ≤ n) → ∀ x ∈ setA l v o, x.a ≤ n ∧ x.b ≤ n
  | [], _, h => h
  | p :: o, l, h => setA_tgt v n hv o _ (by
    intro x hx
    rw [List.mem_iff_getElem?] at hx
    obtain ⟨i, hi⟩ := hx
    rw [List.getElem?_modify] at hi
    cases hl : l[i]? with
    | none => rw [hl] at hi; simp at hi
    | some y =>
      rw [hl] at hi
      have hy := h y (List.mem_of_getElem? hl)
      by_cases e : p = i
      · simp [e] at hi; subst hi; exact ⟨hv, hy.2⟩
      · simp [e] at hi; subst hi; exact hy)
theorem alts_nxt (grp : Rd → Rd) (hg : ∀ q : Rd, q.has = true → Nxt q (grp q)) (r : Rd) : Nxt r (alts grp r) := by
  have h := altsR_nxt grp hg r.fuel r
  unfold alts
  refine ⟨h.s, h.deep, h.le, h.top, by simp only [setA_length]; exact h.mono, by simp only [setA_length]; exact h.len, fun ht => ?_, h.err⟩
  simp only [setA_length]
  exact setA_tgt _ _ (Nat.le_refl _) _ _ (h.tgt ht)
theorem group_nxt : ∀ (k : Nat) (r : Rd), r.has = true → Nxt r (group k r)
  | 0, r, _ => (fail_ext r _ _).nxt
  | k + 1, r, h => by
    obtain ⟨he, ht⟩ := (has_iff r).1 h
    have h1 := alts_nxt (group k) (group_nxt k) r.opened
    have e1 : r.opened.at_ = r.at_ + 1 := rfl
    have e2 : r.opened.l = r.l := rfl
    have h2 : Nxt r ((alts (group k) r.opened).withDeep r.deep) := by
      have a1 := h1.le
      have a2 := h1.len
      have a3 := h1.mono
      rw [e1] at a1 a2
      rw [e2] at a2 a3
      refine ⟨h1.s, rfl, ?_, fun _ => h1.top ht, a3, ?_, h1.tgt, fun h' => absurd he h'⟩
      · show r.at_ ≤ (alts (group k) r.opened).at_; omega
      · show (alts (group k) r.opened).l.length + 2 * r.at_ ≤ r.l.length + 2 * (alts (group k) r.opened).at_; omega
    unfold group
    split
    · exact h2.trans (isR_ext _ _).nxt
    · exact h2.trans (fail_ext _ _ _).nxt
theorem group_go : ∀ (k : Nat) (r : Rd), r.has = true → (group k r).err = 0 → r.at_ < (group k r).at_
  | 0, r, _, h0 => absurd h0 (fail_err r 6 _ (by decide))
  | k + 1, r, _, h0 => by
    have h1 := (alts_nxt (group k) (group_nxt k) r.opened).le
    have e1 : r.opened.at_ = r.at_ + 1 := rfl
    rw [e1] at h1
    unfold group at *
    split
    · have := (isR_ext ((alts (group k) r.opened).withDeep r.deep) 41).le
      have h4 : ((alts (group k) r.opened).withDeep r.deep).at_ = (alts (group k) r.opened).at_ := rfl
      omega
    · rename_i hc
      rw [if_neg hc] at h0
      exact absurd h0 (fail_err _ 2 _ (by decide))
end Rd
end Go.Proofs.YtnbgigdloehbjaaGreatDoor.Rg
