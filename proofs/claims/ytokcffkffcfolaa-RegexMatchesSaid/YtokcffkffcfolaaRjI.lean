/-
  What the document's Match computes, as plain functions on marks; what they answer.
-/
import Derived.Test.YtokcffkffcfolaaRgV
namespace Go.Proofs.Ytokcffkffcfolaa.Rh
open Go Go.Proofs.Ytokcffkffcfolaa.Rg

/-- All that can be come to: n is fuel; st: what waits. -/
def reachG (P : List Inst) : Nat → List Bool → List Nat → List Bool
  | 0, m, _ => m
  | _ + 1, m, [] => m
  | n + 1, m, i :: st => if m.getD i true then reachG P n m st else reachG P n (m.set i true) ((succs P i).reverse ++ st)
def stepG (P : List Inst) (c : Nat) (now : List Bool) : Nat → Nat → List Bool → List Bool
  | 0, _, m => m
  | n + 1, k, m => stepG P c now n (k + 1) (if now.getD k false && takes P k c then reachG P (2 * cf m + 1) m [k + 1] else m)
def startG (P : List Inst) : List Bool := reachG P (2 * cf (none_ P) + 1) (none_ P) [0]
def runG (P : List Inst) : List UInt8 → List Bool → List Bool
  | [], now => now
  | c :: b, now => runG P b (stepG P c.toNat now P.length 0 (none_ P))
def matchG (P : List Inst) (b : List UInt8) : Bool := (runG P b (startG P)).getD (P.length - 1) false

theorem reachG_length (P : List Inst) : ∀ (n : Nat) (m : List Bool) (st : List Nat), (reachG P n m st).length = m.length
  | 0, _, _ => rfl
  | _ + 1, _, [] => rfl
  | n + 1, m, i :: st => by
    rw [reachG]; split
    · exact reachG_length P n m st
    · rw [reachG_length P n]; simp
def On (m : List Bool) (i : Nat) : Prop := m[i]? = some true
theorem on_set {m : List Bool} {i j : Nat} (hi : i < m.length) : On (m.set i true) j ↔ On m j ∨ j = i := by
  unfold On
  rw [List.getElem?_set]
  by_cases e : i = j
  · subst e; simp [hi]
  · rw [if_neg e]
    exact ⟨.inl, fun h => h.elim id fun h => absurd h.symm e⟩
theorem reachG_spec (P : List Inst) (hP : WF P) : ∀ (n : Nat) (m : List Bool) (st : List Nat), m.length = P.length → (∀ i ∈ st, i < P.length) → 2 * cf m + st.length ≤ n → (∀ i, On m i → ∀ j ∈ succs P i, On m j ∨ j ∈ st) →
    (∀ j, On (reachG P n m st) j → On m j ∨ ∃ i ∈ st, Eps P i j) ∧ (∀ i, On m i → On (reachG P n m st) i) ∧ (∀ i ∈ st, On (reachG P n m st) i) ∧ (∀ i, On (reachG P n m st) i → ∀ j ∈ succs P i, On (reachG P n m st) j)
  | 0, m, [], hm, _, hf, hcl => ⟨fun j hj => .inl hj, fun i hi => hi, fun i hi => (by cases hi), fun i hi j hj => (hcl i hi j hj).elim id (fun h => by cases h)⟩
  | 0, m, i :: st, hm, _, hf, hcl => by simp at hf
  | n + 1, m, [], hm, _, hf, hcl => ⟨fun j hj => .inl hj, fun i hi => hi, fun i hi => (by cases hi), fun i hi j hj => (hcl i hi j hj).elim id (fun h => by cases h)⟩
  | n + 1, m, i :: st, hm, hs, hf, hcl => by
    have hi := hs i (by simp)
    have hs' : ∀ k ∈ st, k < P.length := fun k hk => hs k (by simp [hk])
    unfold reachG
    split
    · rename_i h
      have hil : On m i := by
        unfold On
        rw [List.getElem?_eq_getElem (by omega)]
        simp [List.getD, List.getElem?_eq_getElem (show i < m.length by omega)] at h
        rw [h]
      have ih := reachG_spec P hP n m st hm hs' (by simp at hf; omega) (fun a ha j hj => by
        rcases hcl a ha j hj with h | h
        · exact .inl h
        · rcases List.mem_cons.1 h with rfl | h
          · exact .inl hil
          · exact .inr h)
      refine ⟨fun j hj => ?_, ih.2.1, fun k hk => ?_, ih.2.2.2⟩
      · rcases ih.1 j hj with h | ⟨a, ha, he⟩
        · exact .inl h
        · exact .inr ⟨a, by simp [ha], he⟩
      · rcases List.mem_cons.1 hk with rfl | hk
        · exact ih.2.1 _ hil
        · exact ih.2.2.1 k hk
    · rename_i h
      have hfl : m[i]? = some false := by
        rw [List.getElem?_eq_getElem (by omega)]
        simp [List.getD, List.getElem?_eq_getElem (show i < m.length by omega)] at h
        rw [h]
      have hc := cf_set m i hfl
      have hlen : (succs P i).length ≤ 2 := by
        unfold succs
        split
        · split
          · simp
          · split <;> simp
        · simp
      have him : i < m.length := by omega
      have ih := reachG_spec P hP n (m.set i true) ((succs P i).reverse ++ st) (by simpa using hm) (fun k hk => by
        rcases List.mem_append.1 hk with hk | hk
        · exact succs_lt hP i k (List.mem_reverse.1 hk)
        · exact hs' k hk) (by simp at hf ⊢; omega) (fun a ha j hj => by
        rcases (on_set him).1 ha with ha | rfl
        · rcases hcl a ha j hj with h | h
          · exact .inl ((on_set him).2 (.inl h))
          · rcases List.mem_cons.1 h with rfl | h
            · exact .inl ((on_set him).2 (.inr rfl))
            · exact .inr (by simp [h])
        · exact .inr (by simp [hj]))
      refine ⟨fun j hj => ?_, fun k hk => ih.2.1 k ((on_set him).2 (.inl hk)), fun k hk => ?_, ih.2.2.2⟩
      · rcases ih.1 j hj with h | ⟨a, ha, he⟩
        · rcases (on_set him).1 h with h | rfl
          · exact .inl h
          · exact .inr ⟨_, by simp, .refl _⟩
        · rcases List.mem_append.1 ha with ha | ha
          · exact .inr ⟨i, by simp, .step (List.mem_reverse.1 ha) he⟩
          · exact .inr ⟨a, by simp [ha], he⟩
      · rcases List.mem_cons.1 hk with rfl | hk
        · exact ih.2.1 _ ((on_set him).2 (.inr rfl))
        · exact ih.2.2.1 k (by simp [hk])

/-- Marks that are closed. -/
structure MarksG (P : List Inst) (m : List Bool) : Prop where
  len : m.length = P.length
  closed : ∀ i, On m i → ∀ j ∈ succs P i, On m j
theorem MarksG.none (P : List Inst) : MarksG P (none_ P) := ⟨none_length P, fun i hi => by
  simp [On, none_, List.getElem?_replicate] at hi⟩
theorem MarksG.eps {P : List Inst} {m : List Bool} (h : MarksG P m) {i j : Nat} (he : Eps P i j) (hi : On m i) : On m j := by
  induction he with
  | refl => exact hi
  | step hs _ ih => exact ih (h.closed _ hi _ hs)
theorem MarksG.reach {P : List Inst} (hP : WF P) {m : List Bool} (h : MarksG P m) (i : Nat) (hi : i < P.length) :
    MarksG P (reachG P (2 * cf m + 1) m [i]) ∧ ∀ j, On (reachG P (2 * cf m + 1) m [i]) j ↔ On m j ∨ Eps P i j := by
  have hs := reachG_spec P hP (2 * cf m + 1) m [i] h.len (by simpa using hi) (by simp) (fun a ha j hj => .inl (h.closed a ha j hj))
  have hm : MarksG P (reachG P (2 * cf m + 1) m [i]) := ⟨by rw [reachG_length]; exact h.len, hs.2.2.2⟩
  refine ⟨hm, fun j => ⟨fun hj => ?_, fun hj => ?_⟩⟩
  · rcases hs.1 j hj with h | ⟨a, ha, he⟩
    · exact .inl h
    · rw [List.mem_singleton] at ha; subst ha; exact .inr he
  · rcases hj with hj | hj
    · exact hs.2.1 j hj
    · exact hm.eps hj (hs.2.2.1 i (by simp))
theorem on_getD {m : List Bool} {i : Nat} : m.getD i false = true ↔ On m i := by
  unfold On
  rw [List.getD]
  cases m[i]? <;> simp
theorem stepG_spec {P : List Inst} (hP : WF P) (c : Nat) (now : List Bool) : ∀ (n k : Nat) (m : List Bool), MarksG P m →
    MarksG P (stepG P c now n k m) ∧ ∀ j, On (stepG P c now n k m) j ↔ On m j ∨ ∃ i, k ≤ i ∧ i < k + n ∧ On now i ∧ takes P i c = true ∧ Eps P (i + 1) j
  | 0, k, m, h => ⟨h, fun j => ⟨.inl, fun h => h.elim id fun ⟨i, a, b, _⟩ => by omega⟩⟩
  | n + 1, k, m, h => by
    rw [stepG]
    split
    · rename_i ht
      rw [Bool.and_eq_true, on_getD] at ht
      have h1 := h.reach hP (k + 1) (takes_lt hP ht.2)
      have ih := stepG_spec hP c now n (k + 1) _ h1.1
      refine ⟨ih.1, fun j => ?_⟩
      rw [ih.2, h1.2]
      constructor
      · rintro ((h | h) | ⟨i, h1, h2, h3, h4, h5⟩)
        · exact .inl h
        · exact .inr ⟨k, Nat.le_refl _, by omega, ht.1, ht.2, h⟩
        · exact .inr ⟨i, by omega, by omega, h3, h4, h5⟩
      · rintro (h | ⟨i, h1, h2, h3, h4, h5⟩)
        · exact .inl (.inl h)
        · by_cases e : i = k
          · subst e; exact .inl (.inr h5)
          · exact .inr ⟨i, by omega, by omega, h3, h4, h5⟩
    · rename_i ht
      have ih := stepG_spec hP c now n (k + 1) m h
      refine ⟨ih.1, fun j => ?_⟩
      rw [ih.2]
      constructor
      · rintro (h | ⟨i, h1, h2, h3, h4, h5⟩)
        · exact .inl h
        · exact .inr ⟨i, by omega, by omega, h3, h4, h5⟩
      · rintro (h | ⟨i, h1, h2, h3, h4, h5⟩)
        · exact .inl h
        · by_cases e : i = k
          · subst e
            exact absurd (by rw [Bool.and_eq_true, on_getD]; exact ⟨h3, h4⟩) ht
          · exact .inr ⟨i, by omega, by omega, h3, h4, h5⟩
theorem takes_len {P : List Inst} {i c : Nat} (h : takes P i c = true) : i < P.length := by
  unfold takes at h
  cases hx : P[i]? with
  | none => rw [hx] at h; cases h
  | some x => exact (List.getElem?_eq_some_iff.1 hx).1
theorem runG_spec {P : List Inst} (hP : WF P) (hend : ∀ j, ends P j = true ↔ j + 1 = P.length) : ∀ (b : List UInt8) (now : List Bool), MarksG P now → ((runG P b now).getD (P.length - 1) false = true ↔ ∃ i, On now i ∧ Acc P i (b.map UInt8.toNat))
  | [], now, h => by
    rw [runG, on_getD]
    constructor
    · intro ho
      have hlt : P.length - 1 < now.length := (List.getElem?_eq_some_iff.1 ho).1
      exact ⟨_, ho, acc_nil.2 ⟨_, .refl _, (hend _).2 (by have := h.len; omega)⟩⟩
    · rintro ⟨i, hi, ha⟩
      obtain ⟨j, h1, h2⟩ := acc_nil.1 ha
      have h3 := (hend j).1 h2
      have := h.eps h1 hi
      rwa [show P.length - 1 = j by omega]
  | c :: b, now, h => by
    have hs := stepG_spec hP c.toNat now P.length 0 (none_ P) (.none P)
    rw [runG, runG_spec hP hend b _ hs.1]
    constructor
    · rintro ⟨j, hj, ha⟩
      rcases (hs.2 j).1 hj with h | ⟨i, _, _, hi, ht, he⟩
      · simp [On, none_, List.getElem?_replicate] at h
      · exact ⟨i, hi, acc_cons.2 ⟨i, .refl _, ht, he.acc ha⟩⟩
    · rintro ⟨i, hi, ha⟩
      obtain ⟨j, h1, h2, h3⟩ := acc_cons.1 ha
      exact ⟨j + 1, (hs.2 _).2 (.inr ⟨j, Nat.zero_le _, by have := takes_len h2; omega, h.eps h1 hi, h2, .refl _⟩), h3⟩
theorem matchG_spec {P : List Inst} (hP : WF P) (hend : ∀ j, ends P j = true ↔ j + 1 = P.length) (h0 : 0 < P.length) (b : List UInt8) : matchG P b = true ↔ Acc P 0 (b.map UInt8.toNat) := by
  have h1 := (MarksG.none P).reach hP 0 h0
  have hst : ∀ j, On (startG P) j ↔ Eps P 0 j := fun j => by
    rw [startG, h1.2 j]
    simp [On, none_, List.getElem?_replicate]
  rw [matchG, runG_spec hP hend b (startG P) h1.1]
  constructor
  · rintro ⟨i, hi, ha⟩; exact ((hst i).1 hi).acc ha
  · intro h; exact ⟨0, (hst 0).2 (.refl _), h⟩
theorem prog_ends (e : Re) (hok : e.Ok) : ∀ j, ends e.prog j = true ↔ j + 1 = e.prog.length := by
  intro j
  have hl : (e.code 0).length = e.len := Re.code_length e 0
  have hpl : e.prog.length = e.len + 1 := by simp [Re.prog, hl]
  constructor
  · intro h
    unfold ends at h
    cases hx : e.prog[j]? with
    | none => rw [hx] at h; cases h
    | some x =>
      rw [hx] at h
      have hlt := (List.getElem?_eq_some_iff.1 hx).1
      apply Classical.byContradiction
      intro hne
      rw [Re.prog, List.getElem?_append_left (by omega)] at hx
      have := (code_tgt e 0 hok x (List.mem_of_getElem? hx)).1
      simp at h
      omega
  · intro h
    have : j = (e.code 0).length := by omega
    subst this
    rw [ends, Re.prog]
    simp
theorem prog_match (e : Re) (hok : e.Ok) (b : ByteArray) : matchG e.prog b.data.toList = true ↔ e.lang (nats b) := by
  have hl : e.prog.length = e.len + 1 := by simp [Re.prog, Re.code_length]
  rw [matchG_spec (prog_wf e hok) (prog_ends e hok) (by omega), prog_lang]; rfl
end Go.Proofs.Ytokcffkffcfolaa.Rh
