/-
  What Match answers, by paths in the program: plain facts on lists.
-/
import Derived.Test.YtokcffkffcfolaaRgR
namespace Go.Proofs.Ytokcffkffcfolaa.Rg
open Go

/-- From place i on the program takes the text w, in n steps. -/
inductive AccN (P : List Inst) : Nat → Nat → List Nat → Prop
  | done {i x} : P[i]? = some x → x.kind = 3 → AccN P 0 i []
  | eps {n i j w} : j ∈ succs P i → AccN P n j w → AccN P (n + 1) i w
  | byte {n i c w} : takes P i c = true → AccN P n (i + 1) w → AccN P (n + 1) i (c :: w)
def Acc (P : List Inst) (i : Nat) (w : List Nat) : Prop := ∃ n, AccN P n i w
/-- Come to without a byte. -/
inductive Eps (P : List Inst) : Nat → Nat → Prop
  | refl (i) : Eps P i i
  | step {i j k} : j ∈ succs P i → Eps P j k → Eps P i k
theorem Eps.trans {P : List Inst} {i j k : Nat} (h : Eps P i j) (h2 : Eps P j k) : Eps P i k := by
  induction h with
  | refl => exact h2
  | step hs _ ih => exact .step hs (ih h2)
theorem Eps.acc {P : List Inst} {i j : Nat} (h : Eps P i j) {w : List Nat} (h2 : Acc P j w) : Acc P i w := by
  induction h with
  | refl => exact h2
  | step hs _ ih => obtain ⟨n, hn⟩ := ih h2; exact ⟨n + 1, .eps hs hn⟩

/-- What reach comes to. -/
theorem reachF_spec (P : List Inst) (hP : WF P) : ∀ (n : Nat) (m : List Bool) (l st : List Nat), m.length = P.length → (∀ i ∈ st, i < P.length) → 2 * cf m + st.length ≤ n → (∀ i, m[i]? = some true ↔ i ∈ l) →
    (∀ i ∈ l, ∀ j ∈ succs P i, j ∈ l ∨ j ∈ st) →
    (∀ j ∈ (reachF P n m l st).2, j ∈ l ∨ ∃ i ∈ st, Eps P i j) ∧ (∀ i ∈ l, i ∈ (reachF P n m l st).2) ∧ (∀ i ∈ st, i ∈ (reachF P n m l st).2) ∧
    (∀ i ∈ (reachF P n m l st).2, ∀ j ∈ succs P i, j ∈ (reachF P n m l st).2) ∧ (∀ i, (reachF P n m l st).1[i]? = some true ↔ i ∈ (reachF P n m l st).2)
  | 0, m, l, [], hm, _, hf, hml, hcl => ⟨fun j hj => .inl hj, fun i hi => hi, fun i hi => (by cases hi), fun i hi j hj => (hcl i hi j hj).elim id (fun h => by cases h), hml⟩
  | 0, m, l, i :: st, hm, _, hf, hml, hcl => by simp at hf
  | n + 1, m, l, [], hm, _, hf, hml, hcl => ⟨fun j hj => .inl hj, fun i hi => hi, fun i hi => (by cases hi), fun i hi j hj => (hcl i hi j hj).elim id (fun h => by cases h), hml⟩
  | n + 1, m, l, i :: st, hm, hs, hf, hml, hcl => by
    have hi := hs i (by simp)
    have hs' : ∀ k ∈ st, k < P.length := fun k hk => hs k (by simp [hk])
    unfold reachF
    split
    · rename_i h
      have hil : i ∈ l := by
        rw [← hml, List.getElem?_eq_getElem (by omega)]
        simp [List.getD, List.getElem?_eq_getElem (show i < m.length by omega)] at h
        rw [h]
      have ih := reachF_spec P hP n m l st hm hs' (by simp at hf; omega) hml (fun a ha j hj => by
        rcases hcl a ha j hj with h | h
        · exact .inl h
        · rcases List.mem_cons.1 h with rfl | h
          · exact .inl hil
          · exact .inr h)
      refine ⟨fun j hj => ?_, ih.2.1, fun k hk => ?_, ih.2.2.2⟩
      · rcases ih.1 j hj with h | ⟨a, ha, he⟩
        · exact .inl h
        · exact .inr ⟨a, by simp [ha], he⟩
      · rcases List.mem_cons.1 hk with rfl | hk
        · exact ih.2.1 _ hil
        · exact ih.2.2.1 k hk
    · rename_i h
      have hfl : m[i]? = some false := by
        rw [List.getElem?_eq_getElem (by omega)]
        simp [List.getD, List.getElem?_eq_getElem (show i < m.length by omega)] at h
        rw [h]
      have hc := cf_set m i hfl
      have hlen : (succs P i).length ≤ 2 := by
        unfold succs
        split
        · split
          · simp
          · split <;> simp
        · simp
      have ih := reachF_spec P hP n (m.set i true) (l ++ [i]) (succs P i ++ st) (by simpa using hm) (fun k hk => by
        rcases List.mem_append.1 hk with hk | hk
        · exact succs_lt hP i k hk
        · exact hs' k hk) (by simp at hf ⊢; omega) (fun a => by
        rw [List.getElem?_set, List.mem_append, List.mem_singleton]
        by_cases ha : i = a
        · subst ha; simp [show i < m.length by omega]
        · rw [if_neg ha, hml]
          exact ⟨.inl, fun h => h.elim id (fun h => absurd h.symm ha)⟩) (fun a ha j hj => by
        rw [List.mem_append, List.mem_singleton] at ha
        rcases ha with ha | rfl
        · rcases hcl a ha j hj with h | h
          · exact .inl (by simp [h])
          · rcases List.mem_cons.1 h with rfl | h
            · exact .inl (by simp)
            · exact .inr (by simp [h])
        · exact .inr (by simp [hj]))
      refine ⟨fun j hj => ?_, fun k hk => ih.2.1 k (by simp [hk]), fun k hk => ?_, ih.2.2.2⟩
      · rcases ih.1 j hj with h | ⟨a, ha, he⟩
        · rw [List.mem_append, List.mem_singleton] at h
          rcases h with h | rfl
          · exact .inl h
          · exact .inr ⟨_, by simp, .refl _⟩
        · rcases List.mem_append.1 ha with ha | ha
          · exact .inr ⟨i, by simp, .step ha he⟩
          · exact .inr ⟨a, by simp [ha], he⟩
      · rcases List.mem_cons.1 hk with rfl | hk
        · exact ih.2.1 _ (by simp)
        · exact ih.2.2.1 k (by simp [hk])

/-- What is known of the marks and the places that go with them. -/
structure Marks (P : List Inst) (m : List Bool) (l : List Nat) : Prop where
  len : m.length = P.length
  mark : ∀ i, m[i]? = some true ↔ i ∈ l
  closed : ∀ i ∈ l, ∀ j ∈ succs P i, j ∈ l
theorem Marks.none (P : List Inst) : Marks P (none_ P) [] := ⟨none_length P, fun i => by
  simp [none_, List.getElem?_replicate], fun i hi => by cases hi⟩
theorem closed_eps {P : List Inst} {l : List Nat} (h : ∀ i ∈ l, ∀ j ∈ succs P i, j ∈ l) {i j : Nat} (he : Eps P i j) (hi : i ∈ l) : j ∈ l := by
  induction he with
  | refl => exact hi
  | step hs _ ih => exact ih (h _ hi _ hs)
theorem Marks.reach {P : List Inst} (hP : WF P) {m : List Bool} {l : List Nat} (h : Marks P m l) (i : Nat) (hi : i < P.length) :
    Marks P (reachF P (2 * cf m + 1) m l [i]).1 (reachF P (2 * cf m + 1) m l [i]).2 ∧ ∀ j, j ∈ (reachF P (2 * cf m + 1) m l [i]).2 ↔ j ∈ l ∨ Eps P i j := by
  have hs := reachF_spec P hP (2 * cf m + 1) m l [i] h.len (by simpa using hi) (by simp) h.mark (fun a ha j hj => .inl (h.closed a ha j hj))
  refine ⟨⟨?_, hs.2.2.2.2, hs.2.2.2.1⟩, fun j => ⟨fun hj => ?_, fun hj => ?_⟩⟩
  · have : ∀ (n : Nat) (m : List Bool) (l st : List Nat), (reachF P n m l st).1.length = m.length := by
      intro n
      induction n with
      | zero => intros; rfl
      | succ n ih =>
        intro m l st
        cases st with
        | nil => rfl
        | cons a st =>
          unfold reachF
          split
          · exact ih _ _ _
          · rw [ih]; simp
    rw [this]; exact h.len
  · rcases hs.1 j hj with h | ⟨a, ha, he⟩
    · exact .inl h
    · rw [List.mem_singleton] at ha; subst ha; exact .inr he
  · rcases hj with hj | hj
    · exact hs.2.1 j hj
    · exact closed_eps hs.2.2.2.1 hj (hs.2.2.1 i (by simp))
theorem takes_lt {P : List Inst} (hP : WF P) {i c : Nat} (h : takes P i c = true) : i + 1 < P.length := by
  unfold takes at h
  cases hx : P[i]? with
  | none => rw [hx] at h; cases h
  | some x =>
    rw [hx] at h
    simp at h
    exact (hP i x hx).2.2.1 h.1
theorem stepF_spec {P : List Inst} (hP : WF P) (c : Nat) : ∀ (now : List Nat) (m : List Bool) (l : List Nat), Marks P m l →
    Marks P (stepF P c now m l).1 (stepF P c now m l).2 ∧ ∀ j, j ∈ (stepF P c now m l).2 ↔ j ∈ l ∨ ∃ i ∈ now, takes P i c = true ∧ Eps P (i + 1) j
  | [], m, l, h => ⟨h, fun j => by simp [stepF]⟩
  | i :: now, m, l, h => by
    unfold stepF
    split
    · rename_i ht
      have h1 := h.reach hP (i + 1) (takes_lt hP ht)
      have ih := stepF_spec hP c now _ _ h1.1
      refine ⟨ih.1, fun j => ?_⟩
      rw [ih.2, h1.2]
      constructor
      · rintro ((h | h) | ⟨a, ha, hb⟩)
        · exact .inl h
        · exact .inr ⟨i, by simp, ht, h⟩
        · exact .inr ⟨a, by simp [ha], hb⟩
      · rintro (h | ⟨a, ha, hb, hc⟩)
        · exact .inl (.inl h)
        · rcases List.mem_cons.1 ha with rfl | ha
          · exact .inl (.inr hc)
          · exact .inr ⟨a, ha, hb, hc⟩
    · rename_i ht
      have ih := stepF_spec hP c now _ _ h
      refine ⟨ih.1, fun j => ?_⟩
      rw [ih.2]
      constructor
      · rintro (h | ⟨a, ha, hb⟩)
        · exact .inl h
        · exact .inr ⟨a, by simp [ha], hb⟩
      · rintro (h | ⟨a, ha, hb, hc⟩)
        · exact .inl h
        · rcases List.mem_cons.1 ha with rfl | ha
          · exact absurd hb ht
          · exact .inr ⟨a, ha, hb, hc⟩
theorem acc_nil {P : List Inst} {i : Nat} : Acc P i [] ↔ ∃ j, Eps P i j ∧ ends P j = true := by
  constructor
  · rintro ⟨n, hn⟩
    generalize hw : ([] : List Nat) = w at hn
    induction hn with
    | done hx hk => exact ⟨_, .refl _, by rw [ends, hx]; simp [hk]⟩
    | eps hs _ ih => obtain ⟨j, h1, h2⟩ := ih hw; exact ⟨j, .step hs h1, h2⟩
    | byte => cases hw
  · rintro ⟨j, h1, h2⟩
    refine h1.acc ?_
    unfold ends at h2
    cases hx : P[j]? with
    | none => rw [hx] at h2; cases h2
    | some x => rw [hx] at h2; exact ⟨0, .done hx (by simpa using h2)⟩
theorem acc_cons {P : List Inst} {i c : Nat} {w : List Nat} : Acc P i (c :: w) ↔ ∃ j, Eps P i j ∧ takes P j c = true ∧ Acc P (j + 1) w := by
  constructor
  · rintro ⟨n, hn⟩
    generalize hw : c :: w = v at hn
    induction hn with
    | done hx hk => cases hw
    | eps hs _ ih => obtain ⟨j, h1, h2⟩ := ih hw; exact ⟨j, .step hs h1, h2⟩
    | byte ht ha _ => cases hw; exact ⟨_, .refl _, ht, _, ha⟩
  · rintro ⟨j, h1, h2, n, hn⟩
    exact h1.acc ⟨n + 1, .byte h2 hn⟩
theorem runF_spec {P : List Inst} (hP : WF P) : ∀ (b : List UInt8) (now : List Nat), (∀ i ∈ now, ∀ j ∈ succs P i, j ∈ now) → ((runF P b now).any (ends P) = true ↔ ∃ i ∈ now, Acc P i (b.map UInt8.toNat))
  | [], now, hc => by
    rw [runF, List.any_eq_true]
    constructor
    · rintro ⟨j, hj, he⟩; exact ⟨j, hj, acc_nil.2 ⟨j, .refl _, he⟩⟩
    · rintro ⟨i, hi, ha⟩
      obtain ⟨j, h1, h2⟩ := acc_nil.1 ha
      exact ⟨j, closed_eps hc h1 hi, h2⟩
  | c :: b, now, hc => by
    have hs := stepF_spec hP c.toNat now (none_ P) [] (.none P)
    rw [runF, runF_spec hP b _ hs.1.closed]
    constructor
    · rintro ⟨j, hj, ha⟩
      rcases (hs.2 j).1 hj with h | ⟨i, hi, ht, he⟩
      · cases h
      · exact ⟨i, hi, acc_cons.2 ⟨i, .refl _, ht, he.acc ha⟩⟩
    · rintro ⟨i, hi, ha⟩
      obtain ⟨j, h1, h2, h3⟩ := acc_cons.1 ha
      exact ⟨j + 1, (hs.2 _).2 (.inr ⟨j, closed_eps hc h1 hi, h2, .refl _⟩), h3⟩
theorem matchF_spec {P : List Inst} (hP : WF P) (h0 : 0 < P.length) (b : List UInt8) : matchF P b = true ↔ Acc P 0 (b.map UInt8.toNat) := by
  have h1 := (Marks.none P).reach hP 0 h0
  have hc : 2 * cf (none_ P) + 1 = 2 * cf (none_ P) + 1 := rfl
  have hst : ∀ j, j ∈ startF P ↔ Eps P 0 j := fun j => by
    have := h1.2 j
    rw [startF, this]; simp
  rw [matchF, runF_spec hP b (startF P) h1.1.closed]
  constructor
  · rintro ⟨i, hi, ha⟩; exact ((hst i).1 hi).acc ha
  · intro h; exact ⟨0, (hst 0).2 (.refl _), h⟩

/-- Of a jump the second place is not read. -/
def norm (x : Inst) : Inst := if x.kind = 2 then { x with b := 0 } else x
theorem norm_norm (x : Inst) : norm (norm x) = norm x := by unfold norm; split <;> simp_all
theorem succs_norm (P : List Inst) (i : Nat) : succs (P.map norm) i = succs P i := by
  unfold succs
  rw [List.getElem?_map]
  cases P[i]? with
  | none => rfl
  | some x =>
    simp only [Option.map_some, norm]
    split <;> simp_all
theorem takes_norm (P : List Inst) (i c : Nat) : takes (P.map norm) i c = takes P i c := by
  unfold takes
  rw [List.getElem?_map]
  cases P[i]? with
  | none => rfl
  | some x =>
    simp only [Option.map_some, norm]
    split <;> simp_all
theorem accN_norm {P : List Inst} {n i : Nat} {w : List Nat} : AccN (P.map norm) n i w ↔ AccN P n i w := by
  constructor
  · intro h
    induction h with
    | done hx hk =>
      rw [List.getElem?_map] at hx
      rename_i i x
      cases hy : P[i]? with
      | none => rw [hy] at hx; cases hx
      | some y =>
        rw [hy] at hx
        simp only [Option.map_some, Option.some.injEq] at hx
        refine .done hy ?_
        rw [← hx] at hk
        unfold norm at hk
        split at hk <;> simp_all
    | eps hs _ ih => exact .eps (succs_norm P _ ▸ hs) ih
    | byte ht _ ih => exact .byte (takes_norm P _ _ ▸ ht) ih
  · intro h
    induction h with
    | done hx hk =>
      refine .done (x := norm _) (by rw [List.getElem?_map, hx]; rfl) ?_
      unfold norm
      split <;> simp_all
    | eps hs _ ih => exact .eps (by rw [succs_norm]; exact hs) ih
    | byte ht _ ih => exact .byte (by rw [takes_norm]; exact ht) ih
theorem acc_norm {P : List Inst} {i : Nat} {w : List Nat} : Acc (P.map norm) i w ↔ Acc P i w := ⟨fun ⟨n, h⟩ => ⟨n, accN_norm.1 h⟩, fun ⟨n, h⟩ => ⟨n, accN_norm.2 h⟩⟩
theorem wf_norm {P : List Inst} (h : WF (P.map norm)) : WF P := fun i x hx => by
  have := h i (norm x) (by rw [List.getElem?_map, hx]; rfl)
  rw [List.length_map] at this
  unfold norm at this
  split at this <;> simp_all

/-- A pattern. -/
inductive Re where
  | eps
  | set (S : Bs)
  | cat (e f : Re)
  | alt (e f : Re)
  | star (e : Re)
  | plus (e : Re)
  | opt (e : Re)
namespace Re
def len : Re → Nat
  | eps => 0
  | set _ => 1
  | cat e f => e.len + f.len
  | alt e f => e.len + f.len + 2
  | star e => e.len + 2
  | plus e => e.len + 1
  | opt e => e.len + 1
/-- Its program, from place o on. -/
def code : Re → Nat → List Inst
  | eps, _ => []
  | set S, _ => [⟨0, S, 0, 0⟩]
  | cat e f, o => e.code o ++ f.code (o + e.len)
  | alt e f, o => ⟨1, .zero, o + 1, o + 2 + e.len⟩ :: (e.code (o + 1) ++ ⟨2, .zero, o + 2 + e.len + f.len, 0⟩ :: f.code (o + 2 + e.len))
  | star e, o => ⟨1, .zero, o + 1, o + e.len + 2⟩ :: (e.code (o + 1) ++ [⟨2, .zero, o, 0⟩])
  | plus e, o => e.code o ++ [⟨1, .zero, o, o + e.len + 1⟩]
  | opt e, o => ⟨1, .zero, o + 1, o + e.len + 1⟩ :: e.code (o + 1)
def Ok : Re → Prop
  | eps => True
  | set S => S.ok
  | cat e f => e.Ok ∧ f.Ok
  | alt e f => e.Ok ∧ f.Ok
  | star e => e.Ok
  | plus e => e.Ok
  | opt e => e.Ok
theorem code_length : ∀ (e : Re) (o : Nat), (e.code o).length = e.len
  | eps, _ => rfl
  | set _, _ => rfl
  | cat e f, o => by simp [code, len, code_length e, code_length f]
  | alt e f, o => by simp [code, len, code_length e, code_length f]; omega
  | star e, o => by simp [code, len, code_length e]
  | plus e, o => by simp [code, len, code_length e]
  | opt e, o => by simp [code, len, code_length e]
end Re
/-- What is so repeated. -/
inductive Many (L : List Nat → Prop) : List Nat → Prop
  | nil : Many L []
  | cons {u v} : L u → Many L v → Many L (u ++ v)
def Re.lang : Re → List Nat → Prop
  | .eps, w => w = []
  | .set S, w => ∃ c, w = [c] ∧ S.has c = true
  | .cat e f, w => ∃ u v, w = u ++ v ∧ e.lang u ∧ f.lang v
  | .alt e f, w => e.lang w ∨ f.lang w
  | .star e, w => Many e.lang w
  | .plus e, w => ∃ u v, w = u ++ v ∧ e.lang u ∧ Many e.lang v
  | .opt e, w => w = [] ∨ e.lang w

/-- The program P has C at place o. -/
def Lies (P C : List Inst) (o : Nat) : Prop := ∃ A B, P = A ++ C ++ B ∧ A.length = o
theorem Lies.left {P C D : List Inst} {o : Nat} (h : Lies P (C ++ D) o) : Lies P C o := by
  obtain ⟨A, B, rfl, h2⟩ := h
  exact ⟨A, D ++ B, by simp, h2⟩
theorem Lies.right {P C D : List Inst} {o : Nat} (h : Lies P (C ++ D) o) : Lies P D (o + C.length) := by
  obtain ⟨A, B, rfl, h2⟩ := h
  exact ⟨A ++ C, B, by simp, by simp [h2]⟩
theorem Lies.head {P C : List Inst} {x : Inst} {o : Nat} (h : Lies P (x :: C) o) : P[o]? = some x := by
  obtain ⟨A, B, rfl, rfl⟩ := h
  simp
theorem Lies.tail {P C : List Inst} {x : Inst} {o : Nat} (h : Lies P (x :: C) o) : Lies P C (o + 1) := Lies.right (C := [x]) h

theorem accN_set {P : List Inst} {o n : Nat} {x : Inst} (hx : P[o]? = some x) (hk : x.kind = 0) {w : List Nat} (h : AccN P n o w) : ∃ c v m, n = m + 1 ∧ w = c :: v ∧ x.set.has c = true ∧ AccN P m (o + 1) v := by
  cases h with
  | done hy h3 => rw [hx] at hy; cases hy; omega
  | eps hs _ => rw [succs, hx] at hs; simp [hk] at hs
  | byte ht ha => rw [takes, hx] at ht; simp [hk] at ht; exact ⟨_, _, _, rfl, rfl, ht, ha⟩
theorem accN_fork {P : List Inst} {o n : Nat} {x : Inst} (hx : P[o]? = some x) (hk : x.kind = 1) {w : List Nat} (h : AccN P n o w) : ∃ m, n = m + 1 ∧ (AccN P m x.a w ∨ AccN P m x.b w) := by
  cases h with
  | done hy h3 => rw [hx] at hy; cases hy; omega
  | eps hs ha =>
    rw [succs, hx] at hs
    simp [hk] at hs
    rcases hs with rfl | rfl
    · exact ⟨_, rfl, .inl ha⟩
    · exact ⟨_, rfl, .inr ha⟩
  | byte ht ha => rw [takes, hx] at ht; simp [hk] at ht
theorem accN_jump {P : List Inst} {o n : Nat} {x : Inst} (hx : P[o]? = some x) (hk : x.kind = 2) {w : List Nat} (h : AccN P n o w) : ∃ m, n = m + 1 ∧ AccN P m x.a w := by
  cases h with
  | done hy h3 => rw [hx] at hy; cases hy; omega
  | eps hs ha =>
    rw [succs, hx] at hs
    simp [hk] at hs
    subst hs
    exact ⟨_, rfl, ha⟩
  | byte ht ha => rw [takes, hx] at ht; simp [hk] at ht
theorem acc_set {P : List Inst} {o : Nat} {x : Inst} (hx : P[o]? = some x) (hk : x.kind = 0) {c : Nat} {w : List Nat} (hc : x.set.has c = true) (h : Acc P (o + 1) w) : Acc P o (c :: w) := by
  obtain ⟨n, hn⟩ := h
  exact ⟨n + 1, .byte (by rw [takes, hx]; simp [hk, hc]) hn⟩
theorem acc_fork {P : List Inst} {o : Nat} {x : Inst} (hx : P[o]? = some x) (hk : x.kind = 1) {w : List Nat} (h : Acc P x.a w ∨ Acc P x.b w) : Acc P o w := by
  rcases h with ⟨n, hn⟩ | ⟨n, hn⟩
  · exact ⟨n + 1, .eps (j := x.a) (by rw [succs, hx]; simp [hk]) hn⟩
  · exact ⟨n + 1, .eps (j := x.b) (by rw [succs, hx]; simp [hk]) hn⟩
theorem acc_jump {P : List Inst} {o : Nat} {x : Inst} (hx : P[o]? = some x) (hk : x.kind = 2) {w : List Nat} (h : Acc P x.a w) : Acc P o w := by
  obtain ⟨n, hn⟩ := h
  exact ⟨n + 1, .eps (j := x.a) (by rw [succs, hx]; simp [hk]) hn⟩

/-- A pattern's program takes what the pattern says, and goes on behind it. -/
theorem code_sound (P : List Inst) : ∀ (e : Re) (o : Nat), Lies P (e.code o) o → ∀ (n : Nat) (w : List Nat), AccN P n o w → ∃ u v m, m ≤ n ∧ w = u ++ v ∧ e.lang u ∧ AccN P m (o + e.len) v
  | .eps, o, _, n, w, h => ⟨[], w, n, Nat.le_refl _, rfl, rfl, h⟩
  | .set S, o, hl, n, w, h => by
    obtain ⟨c, v, m, rfl, rfl, hc, ha⟩ := accN_set (Lies.head hl) rfl h
    exact ⟨[c], v, m, by omega, rfl, ⟨c, rfl, hc⟩, ha⟩
  | .cat e f, o, hl, n, w, h => by
    obtain ⟨u, v, m, hm, rfl, hu, ha⟩ := code_sound P e o hl.left n w h
    have hr := hl.right
    rw [Re.code_length] at hr
    obtain ⟨u2, v2, m2, hm2, rfl, hu2, ha2⟩ := code_sound P f _ hr m v ha
    exact ⟨u ++ u2, v2, m2, by omega, by simp, ⟨u, u2, rfl, hu, hu2⟩, by rw [Re.len, ← Nat.add_assoc]; exact ha2⟩
  | .alt e f, o, hl, n, w, h => by
    have hr := hl.tail.right
    rw [Re.code_length] at hr
    obtain ⟨m, rfl, ha | ha⟩ := accN_fork hl.head rfl h
    · obtain ⟨u, v, m1, hm, rfl, hu, ha1⟩ := code_sound P e _ hl.tail.left m w ha
      obtain ⟨m2, rfl, ha2⟩ := accN_jump hr.head rfl ha1
      refine ⟨u, v, m2, by omega, rfl, .inl hu, ?_⟩
      rw [Re.len, show o + (e.len + f.len + 2) = o + 2 + e.len + f.len by omega]; exact ha2
    · have ht := hr.tail
      rw [show o + 1 + e.len + 1 = o + 2 + e.len by omega] at ht
      obtain ⟨u, v, m1, hm, rfl, hu, ha1⟩ := code_sound P f _ ht m w ha
      refine ⟨u, v, m1, by omega, rfl, .inr hu, ?_⟩
      rw [Re.len, show o + (e.len + f.len + 2) = o + 2 + e.len + f.len by omega]; exact ha1
  | .star e, o, hl, n, w, h => by
    have hr := hl.tail.right
    rw [Re.code_length] at hr
    have key : ∀ (n : Nat) (w : List Nat), AccN P n o w → ∃ u v m, m ≤ n ∧ w = u ++ v ∧ Many e.lang u ∧ AccN P m (o + e.len + 2) v := by
      intro n
      induction n using Nat.strongRecOn with
      | ind n ih =>
        intro w h
        obtain ⟨m, rfl, ha | ha⟩ := accN_fork hl.head rfl h
        · obtain ⟨u, v, m1, hm, rfl, hu, ha1⟩ := code_sound P e _ hl.tail.left m w ha
          obtain ⟨m2, rfl, ha2⟩ := accN_jump hr.head rfl ha1
          obtain ⟨u2, v2, m3, hm3, rfl, hu2, ha3⟩ := ih m2 (by omega) v ha2
          exact ⟨u ++ u2, v2, m3, by omega, by simp, .cons hu hu2, ha3⟩
        · exact ⟨[], w, m, by omega, rfl, .nil, ha⟩
    exact key n w h
  | .plus e, o, hl, n, w, h => by
    have hr := hl.right
    rw [Re.code_length] at hr
    have key : ∀ (n : Nat) (w : List Nat), AccN P n o w → ∃ u v m, m ≤ n ∧ w = u ++ v ∧ (∃ a b, u = a ++ b ∧ e.lang a ∧ Many e.lang b) ∧ AccN P m (o + e.len + 1) v := by
      intro n
      induction n using Nat.strongRecOn with
      | ind n ih =>
        intro w h
        obtain ⟨u, v, m1, hm, rfl, hu, ha1⟩ := code_sound P e _ hl.left n w h
        obtain ⟨m, rfl, ha | ha⟩ := accN_fork hr.head rfl ha1
        · obtain ⟨u2, v2, m3, hm3, rfl, ⟨a, b, rfl, h1, h2⟩, ha3⟩ := ih m (by omega) v ha
          exact ⟨u ++ (a ++ b), v2, m3, by omega, by simp, ⟨u, a ++ b, rfl, hu, .cons h1 h2⟩, ha3⟩
        · exact ⟨u, v, m, by omega, rfl, ⟨u, [], by simp, hu, .nil⟩, ha⟩
    exact key n w h
  | .opt e, o, hl, n, w, h => by
    obtain ⟨m, rfl, ha | ha⟩ := accN_fork hl.head rfl h
    · obtain ⟨u, v, m1, hm, rfl, hu, ha1⟩ := code_sound P e _ hl.tail m w ha
      refine ⟨u, v, m1, by omega, rfl, .inr hu, ?_⟩
      rw [Re.len, show o + (e.len + 1) = o + 1 + e.len by omega]; exact ha1
    · exact ⟨[], w, m, by omega, rfl, .inl rfl, ha⟩
theorem code_complete (P : List Inst) : ∀ (e : Re) (o : Nat), Lies P (e.code o) o → ∀ (u v : List Nat), e.lang u → Acc P (o + e.len) v → Acc P o (u ++ v)
  | .eps, o, _, u, v, hu, h => by rw [show u = [] from hu]; exact h
  | .set S, o, hl, u, v, hu, h => by
    obtain ⟨c, rfl, hc⟩ := hu
    exact acc_set (Lies.head hl) rfl hc h
  | .cat e f, o, hl, u, v, hu, h => by
    obtain ⟨a, b, rfl, h1, h2⟩ := hu
    have hr := hl.right
    rw [Re.code_length] at hr
    rw [List.append_assoc]
    refine code_complete P e o hl.left a _ h1 (code_complete P f _ hr b v h2 ?_)
    rw [Nat.add_assoc]; exact h
  | .alt e f, o, hl, u, v, hu, h => by
    have hr := hl.tail.right
    rw [Re.code_length] at hr
    rw [Re.len, show o + (e.len + f.len + 2) = o + 2 + e.len + f.len by omega] at h
    rcases hu with hu | hu
    · exact acc_fork hl.head rfl (.inl (code_complete P e _ hl.tail.left u v hu (acc_jump hr.head rfl h)))
    · have ht := hr.tail
      rw [show o + 1 + e.len + 1 = o + 2 + e.len by omega] at ht
      exact acc_fork hl.head rfl (.inr (code_complete P f _ ht u v hu h))
  | .star e, o, hl, u, v, hu, h => by
    have hr := hl.tail.right
    rw [Re.code_length] at hr
    have hu' : Many e.lang u := hu
    induction hu' with
    | nil => exact acc_fork hl.head rfl (.inr h)
    | cons h1 h2 ih =>
      rw [List.append_assoc]
      exact acc_fork hl.head rfl (.inl (code_complete P e _ hl.tail.left _ _ h1 (acc_jump hr.head rfl (ih h2))))
  | .plus e, o, hl, u, v, hu, h => by
    have hr := hl.right
    rw [Re.code_length] at hr
    obtain ⟨a, b, rfl, h1, h2⟩ := hu
    rw [List.append_assoc]
    refine code_complete P e o hl.left a _ h1 (acc_fork hr.head rfl ?_)
    clear h1
    induction h2 with
    | nil => exact .inr h
    | cons h1 h2 ih =>
      rw [List.append_assoc]
      exact .inl (code_complete P e _ hl.left _ _ h1 (acc_fork hr.head rfl ih))
  | .opt e, o, hl, u, v, hu, h => by
    rcases hu with rfl | hu
    · exact acc_fork hl.head rfl (.inr h)
    · refine acc_fork hl.head rfl (.inl (code_complete P e _ hl.tail u v hu ?_))
      rw [show o + 1 + e.len = o + (e.len + 1) by omega]; exact h
/-- The pattern's whole program. -/
def Re.prog (e : Re) : List Inst := e.code 0 ++ [⟨3, .zero, 0, 0⟩]
theorem prog_lang (e : Re) (w : List Nat) : Acc e.prog 0 w ↔ e.lang w := by
  have hl : Lies e.prog (e.code 0) 0 := ⟨[], [⟨3, .zero, 0, 0⟩], by simp [Re.prog], rfl⟩
  have hx : e.prog[0 + e.len]? = some ⟨3, .zero, 0, 0⟩ := by
    rw [Re.prog, List.getElem?_append_right (by rw [Re.code_length]; omega), Re.code_length]; simp
  constructor
  · rintro ⟨n, hn⟩
    obtain ⟨u, v, m, _, rfl, hu, ha⟩ := code_sound _ e 0 hl n w hn
    cases ha with
    | done => simpa using hu
    | eps hs _ => rw [succs, hx] at hs; simp at hs
    | byte ht _ => rw [takes, hx] at ht; simp at ht
  · intro h
    have := code_complete _ e 0 hl w [] h ⟨0, .done hx rfl⟩
    simpa using this
theorem code_tgt : ∀ (e : Re) (o : Nat), e.Ok → ∀ x ∈ e.code o, x.kind ≤ 2 ∧ (x.kind = 1 → o ≤ x.a ∧ o ≤ x.b ∧ x.a ≤ o + e.len ∧ x.b ≤ o + e.len) ∧ (x.kind = 2 → o ≤ x.a ∧ x.a ≤ o + e.len) ∧ x.set.ok
  | .eps, _, _, x, hx => by cases hx
  | .set S, o, hok, x, hx => by
    rw [Re.code, List.mem_singleton] at hx; subst hx; exact ⟨Nat.zero_le _, fun h => (by cases h), fun h => (by cases h), hok⟩
  | .cat e f, o, hok, x, hx => by
    rw [Re.code, List.mem_append] at hx
    rw [Re.len]
    rcases hx with hx | hx
    · have := code_tgt e o hok.1 x hx; exact ⟨this.1, fun h => by have := this.2.1 h; omega, fun h => by have := this.2.2.1 h; omega, this.2.2.2⟩
    · have := code_tgt f _ hok.2 x hx; exact ⟨this.1, fun h => by have := this.2.1 h; omega, fun h => by have := this.2.2.1 h; omega, this.2.2.2⟩
  | .alt e f, o, hok, x, hx => by
    rw [Re.code, List.mem_cons, List.mem_append, List.mem_cons] at hx
    rw [Re.len]
    rcases hx with rfl | hx | rfl | hx
    · exact ⟨by simp, fun _ => by simp; omega, fun h => (by cases h), by simp [Bs.ok, Bs.zero]⟩
    · have := code_tgt e _ hok.1 x hx; exact ⟨this.1, fun h => by have := this.2.1 h; omega, fun h => by have := this.2.2.1 h; omega, this.2.2.2⟩
    · exact ⟨by simp, fun h => (by cases h), fun _ => by simp; omega, by simp [Bs.ok, Bs.zero]⟩
    · have := code_tgt f _ hok.2 x hx; exact ⟨this.1, fun h => by have := this.2.1 h; omega, fun h => by have := this.2.2.1 h; omega, this.2.2.2⟩
  | .star e, o, hok, x, hx => by
    rw [Re.code, List.mem_cons, List.mem_append, List.mem_singleton] at hx
    rw [Re.len]
    rcases hx with rfl | hx | rfl
    · exact ⟨by simp, fun _ => by simp; omega, fun h => (by cases h), by simp [Bs.ok, Bs.zero]⟩
    · have := code_tgt e _ hok x hx; exact ⟨this.1, fun h => by have := this.2.1 h; omega, fun h => by have := this.2.2.1 h; omega, this.2.2.2⟩
    · exact ⟨by simp, fun h => (by cases h), fun _ => by simp, by simp [Bs.ok, Bs.zero]⟩
  | .plus e, o, hok, x, hx => by
    rw [Re.code, List.mem_append, List.mem_singleton] at hx
    rw [Re.len]
    rcases hx with hx | rfl
    · have := code_tgt e _ hok x hx; exact ⟨this.1, fun h => by have := this.2.1 h; omega, fun h => by have := this.2.2.1 h; omega, this.2.2.2⟩
    · exact ⟨by simp, fun _ => by simp; omega, fun h => (by cases h), by simp [Bs.ok, Bs.zero]⟩
  | .opt e, o, hok, x, hx => by
    rw [Re.code, List.mem_cons] at hx
    rw [Re.len]
    rcases hx with rfl | hx
    · exact ⟨by simp, fun _ => by simp; omega, fun h => (by cases h), by simp [Bs.ok, Bs.zero]⟩
    · have := code_tgt e _ hok x hx; exact ⟨this.1, fun h => by have := this.2.1 h; omega, fun h => by have := this.2.2.1 h; omega, this.2.2.2⟩
theorem prog_wf (e : Re) (hok : e.Ok) : WF e.prog := by
  intro i x hx
  have hl : e.prog.length = e.len + 1 := by simp [Re.prog, Re.code_length]
  rw [hl]
  rw [Re.prog] at hx
  by_cases h : i < (e.code 0).length
  · rw [List.getElem?_append_left h] at hx
    have := code_tgt e 0 hok x (List.mem_of_getElem? hx)
    rw [Re.code_length] at h
    exact ⟨fun h => by have := this.2.1 h; omega, fun h => by have := this.2.2.1 h; omega, fun _ => by omega, this.2.2.2⟩
  · rw [List.getElem?_append_right (by omega)] at hx
    have := List.mem_of_getElem? hx
    rw [List.mem_singleton] at this
    subst this
    exact ⟨fun h => (by cases h), fun h => (by cases h), fun h => (by cases h), by simp [Bs.ok, Bs.zero]⟩
theorem norm_code : ∀ (e : Re) (o : Nat), (e.code o).map norm = e.code o
  | .eps, _ => rfl
  | .set S, _ => rfl
  | .cat e f, o => by simp [Re.code, norm_code e, norm_code f]
  | .alt e f, o => by simp [Re.code, norm_code e, norm_code f, norm]
  | .star e, o => by simp [Re.code, norm_code e, norm]
  | .plus e, o => by simp [Re.code, norm_code e, norm]
  | .opt e, o => by simp [Re.code, norm_code e, norm]
theorem norm_bump (x : Inst) : norm (Rd.bump x) = norm (Rd.bump (norm x)) := by
  unfold norm Rd.bump
  split <;> split <;> simp_all
/-- Shifted by one. -/
theorem bump_code : ∀ (e : Re) (o : Nat), (e.code o).map (fun x => norm (Rd.bump x)) = e.code (o + 1)
  | .eps, _ => rfl
  | .set S, _ => rfl
  | .cat e f, o => by simp [Re.code, bump_code e, bump_code f, Nat.add_right_comm]
  | .alt e f, o => by
    simp only [Re.code, List.map_cons, List.map_append, bump_code e, bump_code f]
    simp [norm, Rd.bump, Nat.add_right_comm]
  | .star e, o => by
    simp only [Re.code, List.map_cons, List.map_append, bump_code e]
    simp [norm, Rd.bump, Nat.add_right_comm]
  | .plus e, o => by
    simp only [Re.code, List.map_cons, List.map_append, bump_code e]
    simp [norm, Rd.bump, Nat.add_right_comm]
  | .opt e, o => by
    simp only [Re.code, List.map_cons, bump_code e]
    simp [norm, Rd.bump, Nat.add_right_comm]
end Go.Proofs.Ytokcffkffcfolaa.Rg
