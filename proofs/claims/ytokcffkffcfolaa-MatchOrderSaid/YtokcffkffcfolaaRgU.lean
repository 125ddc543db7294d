/-
  The patterns' grammar, whole; what is in it the reader reads.
-/
import Derived.Test.YtokcffkffcfolaaRgT
namespace Go.Proofs.Ytokcffkffcfolaa.Rg
open Go

def special : List Nat := [92, 46, 91, 93, 40, 41, 124, 42, 43, 63]
inductive Ty where | atom | pieces | alts
/-- A text by the grammar: how many brackets stand within each other, at most. -/
inductive G : Ty → Nat → List Nat → Re → Prop
  | dot {k} : G .atom k [46] (.set .all)
  | esc {k c} : c ∈ Rd.behind → G .atom k [92, c] (.set (Bs.zero.put c))
  | byte {k c} : c ∉ special → G .atom k [c] (.set (Bs.zero.put c))
  | cls {k w S} : Cls w S → G .atom k w (.set S)
  | group {k w e} : G .alts k w e → G .atom (k + 1) (40 :: (w ++ [41])) e
  | none {k} : G .pieces k [] .eps
  | one {k a e v f} : G .atom k a e → G .pieces k v f → G .pieces k (a ++ v) (.cat e f)
  | star {k a e v f} : G .atom k a e → G .pieces k v f → G .pieces k (a ++ 42 :: v) (.cat (.star e) f)
  | plus {k a e v f} : G .atom k a e → G .pieces k v f → G .pieces k (a ++ 43 :: v) (.cat (.plus e) f)
  | opt {k a e v f} : G .atom k a e → G .pieces k v f → G .pieces k (a ++ 63 :: v) (.cat (.opt e) f)
  | last {k w e} : G .pieces k w e → G .alts k w e
  | alt {k w e v f} : G .pieces k w e → G .alts k v f → G .alts k (w ++ 124 :: v) (.alt e f)

theorem Bs.setWord_ok {S : Bs} (h : S.ok) (i v : Nat) (hv : v < 18446744073709551616) : (S.setWord i v).ok := by
  obtain ⟨h0, h1, h2, h3⟩ := h
  unfold Bs.setWord
  split
  · exact ⟨hv, h1, h2, h3⟩
  · exact ⟨h0, hv, h2, h3⟩
  · exact ⟨h0, h1, hv, h3⟩
  · exact ⟨h0, h1, h2, hv⟩
theorem Bs.put_ok {S : Bs} (h : S.ok) (c : Nat) : (S.put c).ok := by
  obtain ⟨h0, h1, h2, h3⟩ := h
  have hp : 2 ^ (c % 64) < 2 ^ 64 := Nat.pow_lt_pow_right (by decide) (Nat.mod_lt _ (by decide))
  have ho : ∀ x, x < 18446744073709551616 → x ||| 2 ^ (c % 64) < 18446744073709551616 := fun x hx => Nat.or_lt_two_pow (n := 64) hx hp
  exact Bs.setWord_ok ⟨h0, h1, h2, h3⟩ _ _ (ho _ (Bs.word_lt ⟨h0, h1, h2, h3⟩ _))
theorem Bs.putN_ok {S : Bs} (h : S.ok) (lo : Nat) : ∀ n, (S.putN lo n).ok
  | 0 => h
  | n + 1 => Bs.put_ok (Bs.putN_ok h lo n) _
theorem Bs.zero_ok : Bs.zero.ok := by simp [Bs.ok, Bs.zero]
theorem Bs.all_ok : Bs.all.ok := by simp [Bs.ok, Bs.all]
theorem Bs.neg_ok (S : Bs) : S.neg.ok := by unfold Bs.neg Bs.ok; refine ⟨?_, ?_, ?_, ?_⟩ <;> dsimp only <;> omega
theorem Its.ok {w : List Nat} {S S' : Bs} (h : Its w S S') : S.ok → S'.ok := by
  induction h with
  | last _ => intro hs; exact Bs.putN_ok hs _ _
  | more _ _ ih => intro hs; exact ih (Bs.putN_ok hs _ _)
theorem Cls.ok {w : List Nat} {S : Bs} (h : Cls w S) : S.ok := by
  cases h with
  | is h => exact h.ok Bs.zero_ok
  | isnt h => exact Bs.neg_ok _
theorem G.ok {T : Ty} {k : Nat} {w : List Nat} {e : Re} (h : G T k w e) : e.Ok := by
  induction h with
  | dot => exact Bs.all_ok
  | esc => exact Bs.put_ok Bs.zero_ok _
  | byte => exact Bs.put_ok Bs.zero_ok _
  | cls h => exact h.ok
  | group _ ih => exact ih
  | none => trivial
  | one _ _ ih1 ih2 => exact ⟨ih1, ih2⟩
  | star _ _ ih1 ih2 => exact ⟨ih1, ih2⟩
  | plus _ _ ih1 ih2 => exact ⟨ih1, ih2⟩
  | opt _ _ ih1 ih2 => exact ⟨ih1, ih2⟩
  | last _ ih => exact ih
  | alt _ _ ih1 ih2 => exact ⟨ih1, ih2⟩
theorem G.atom_head {k : Nat} {w : List Nat} {e : Re} (h : G .atom k w e) : ∃ c v, w = c :: v ∧ c ≠ 124 ∧ c ≠ 41 ∧ c ≠ 42 ∧ c ≠ 43 ∧ c ≠ 63 ∧ c ≠ 93 := by
  cases h with
  | dot => exact ⟨_, _, rfl, by decide⟩
  | esc => exact ⟨_, _, rfl, by decide⟩
  | byte h => exact ⟨_, _, rfl, by simp [special] at h; omega⟩
  | cls h => cases h <;> exact ⟨_, _, rfl, by decide⟩
  | group => exact ⟨_, _, rfl, by decide⟩
/-- What may stand behind pieces: none, or a stroke, or a bracket that closes. -/
def Stop (t : List Nat) : Prop := ∀ c v, t = c :: v → c = 124 ∨ c = 41
/-- No sign of how often. -/
def Once (t : List Nat) : Prop := ∀ c v, t = c :: v → c ≠ 42 ∧ c ≠ 43 ∧ c ≠ 63
theorem Stop.once {t : List Nat} (h : Stop t) : Once t := fun c v hc => by have := h c v hc; omega
theorem G.pieces_once {k : Nat} {w t : List Nat} {e : Re} (h : G .pieces k w e) (ht : Stop t) : Once (w ++ t) := by
  have key : ∀ {a e}, G .atom k a e → ∀ u, Once (a ++ u) := fun ha u => by
    obtain ⟨c, v, rfl, hc⟩ := ha.atom_head
    intro d x hx
    rw [List.cons_append] at hx
    have := (List.cons.inj hx).1
    omega
  cases h with
  | none => exact ht.once
  | one h _ => rw [List.append_assoc]; exact key h _
  | star h _ => rw [List.append_assoc]; exact key h _
  | plus h _ => rw [List.append_assoc]; exact key h _
  | opt h _ => rw [List.append_assoc]; exact key h _

/-- r' is what r comes to: behind it t is to be read, the pattern's program is written. -/
structure Goes (r r' : Rd) (t : List Nat) (e : Re) : Prop where
  rdy : Rdy r' t
  l : r'.l.map norm = r.l.map norm ++ e.code r.l.length
theorem Goes.length {r r' : Rd} {t : List Nat} {e : Re} (h : Goes r r' t e) : r'.l.length = r.l.length + e.len := by
  have := congrArg List.length h.l
  simpa [Re.code_length] using this
theorem Goes.put {r r' : Rd} {t : List Nat} (h : Rdy r' t) (hl : r'.l = r.l) (S : Bs) : Goes r (r'.put ⟨0, S, 0, 0⟩) t (.set S) := by
  refine ⟨h.put _, ?_⟩
  rw [Rd.put, hl]; simp [Re.code, norm]
def Deep (r' : Rd) (k d : Nat) : Prop := r'.err = 6 ∧ k < d

/-- The program with one put ahead of what stands from a place on. -/
theorem shift_norm {r : Rd} {A C : List Inst} (h : r.l.map norm = A ++ C) (r0 : Rd) (h0 : r0.l = r.l) : ∃ x, (r0.shift A.length).l.map norm = A ++ x :: C.map (fun y => norm (Rd.bump y)) := by
  refine ⟨norm (r.l.getD A.length ⟨0, .zero, 0, 0⟩), ?_⟩
  have h1 : (r.l.take A.length).map norm = A := by rw [List.map_take, h]; simp
  have h2 : (r.l.drop A.length).map norm = C := by rw [List.map_drop, h]; simp
  rw [Rd.shift]
  simp only [h0, List.map_append, List.map_cons, h1, ← h2, List.map_map]
  congr 2
  apply List.map_congr_left
  intro y _
  exact norm_bump y
theorem put_norm {r : Rd} {B : List Inst} (h : r.l.map norm = B) (x : Inst) : (r.put x).l.map norm = B ++ [norm x] := by rw [Rd.put]; simp [h]
theorem setAt_norm {r : Rd} {A C : List Inst} {x : Inst} (h : r.l.map norm = A ++ x :: C) (y : Inst) : (r.setAt A.length y).l.map norm = A ++ norm y :: C := by
  rw [Rd.setAt]
  simp only [List.map_set, h]
  simp
theorem code_bump (e : Re) (o : Nat) : (e.code o).map (fun y => norm (Rd.bump y)) = e.code (o + 1) := bump_code e o

theorem many_star {r r' : Rd} {t : List Nat} {e : Re} (h : Goes r r' (42 :: t) e) : Goes r (r'.many r.l.length) t (.star e) := by
  have hb : r'.isB 43 = false ∧ r'.isB 63 = false ∧ r'.isB 42 = true := by simp [h.rdy.isB]
  rw [Rd.many, if_neg (by rw [hb.1]; simp), if_neg (by rw [hb.2.1]; simp), if_pos hb.2.2]
  have hA : (r.l.map norm).length = r.l.length := by simp
  obtain ⟨x, hs⟩ := shift_norm h.l (r'.isR 42) (Rd.isR_ext _ _).l
  rw [hA, code_bump] at hs
  have hp := put_norm hs ⟨2, .zero, r.l.length, 0⟩
  rw [List.append_assoc, List.cons_append] at hp
  have hlen := congrArg List.length hp
  simp only [List.length_map, List.length_append, List.length_cons, List.length_nil, Re.code_length] at hlen
  refine ⟨⟨h.rdy.isR.err, h.rdy.isR.top, h.rdy.isR.rest⟩, ?_⟩
  have hfin := setAt_norm hp ⟨1, .zero, r.l.length + 1, (((r'.isR 42).shift r.l.length).put ⟨2, .zero, r.l.length, 0⟩).l.length⟩
  rw [hA] at hfin
  rw [hfin, hlen, Re.code]
  simp [norm]; omega
theorem many_opt {r r' : Rd} {t : List Nat} {e : Re} (h : Goes r r' (63 :: t) e) : Goes r (r'.many r.l.length) t (.opt e) := by
  have hb : r'.isB 43 = false ∧ r'.isB 63 = true := by simp [h.rdy.isB]
  rw [Rd.many, if_neg (by rw [hb.1]; simp), if_pos hb.2]
  have hA : (r.l.map norm).length = r.l.length := by simp
  obtain ⟨x, hs⟩ := shift_norm h.l (r'.isR 63) (Rd.isR_ext _ _).l
  rw [hA, code_bump] at hs
  have hlen := congrArg List.length hs
  simp only [List.length_map, List.length_append, List.length_cons, Re.code_length] at hlen
  refine ⟨⟨h.rdy.isR.err, h.rdy.isR.top, h.rdy.isR.rest⟩, ?_⟩
  have hfin := setAt_norm hs ⟨1, .zero, r.l.length + 1, ((r'.isR 63).shift r.l.length).l.length⟩
  rw [hA] at hfin
  rw [hfin, hlen, Re.code]
  simp [norm]; omega
theorem many_plus {r r' : Rd} {t : List Nat} {e : Re} (h : Goes r r' (43 :: t) e) : Goes r (r'.many r.l.length) t (.plus e) := by
  have hb : r'.isB 43 = true := by simp [h.rdy.isB]
  rw [Rd.many, if_pos hb]
  refine ⟨h.rdy.isR.put _, ?_⟩
  have hl : (r'.isR 43).l = r'.l := (Rd.isR_ext _ _).l
  rw [put_norm (B := r.l.map norm ++ e.code r.l.length) (by rw [hl]; exact h.l), hl, h.length, Re.code]
  simp [norm]
theorem many_once {r' : Rd} {t : List Nat} (h : Rdy r' t) (ht : Once t) (p : Nat) : r'.many p = r' := by
  have hb : r'.isB 43 = false ∧ r'.isB 63 = false ∧ r'.isB 42 = false := by
    cases t with
    | nil => exact ⟨h.isB_nil _, h.isB_nil _, h.isB_nil _⟩
    | cons c v => have := ht c v rfl; rw [h.isB, h.isB, h.isB]; simp; omega
  rw [Rd.many, if_neg (by rw [hb.1]; simp), if_neg (by rw [hb.2.1]; simp), if_neg (by rw [hb.2.2]; simp)]
theorem many_bad {r' : Rd} (h : r'.err ≠ 0) (p : Nat) : r'.many p = r' := by
  have hb : ∀ c, r'.isB c = false := fun c => by simp [Rd.isB, Rd.has, h]
  rw [Rd.many, if_neg (by rw [hb]; simp), if_neg (by rw [hb]; simp), if_neg (by rw [hb]; simp)]
theorem pieces_bad (grp : Rd → Rd) {r : Rd} (h : r.err ≠ 0) : ∀ n, Rd.pieces grp n r = r
  | 0 => rfl
  | n + 1 => by rw [Rd.pieces, if_pos (Rd.stops_err r h)]
theorem altsR_bad (grp : Rd → Rd) {r : Rd} (h : r.err ≠ 0) : ∀ n, Rd.altsR grp n r = r
  | 0 => rfl
  | n + 1 => by
    have hb : r.isB 124 = false := by simp [Rd.isB, Rd.has, h]
    rw [Rd.altsR, pieces_bad grp h, if_neg (by rw [hb]; simp)]
theorem Rdy.stops {r : Rd} {t : List Nat} (h : Rdy r t) (ht : Stop t) : r.stops = true := by
  cases t with
  | nil => simp [Rd.stops, h.has_nil]
  | cons c v => rcases ht c v rfl with rfl | rfl <;> simp [Rd.stops, h.cur]
theorem Rdy.no_stop {r : Rd} {c : Nat} {t : List Nat} (h : Rdy r (c :: t)) (h1 : c ≠ 124) (h2 : c ≠ 41) : r.stops = false := by
  simp [Rd.stops, h.has, h.cur, h1, h2]
theorem Rdy.an_atom {r : Rd} {c : Nat} {t : List Nat} (h : Rdy r (c :: t)) (h1 : c ≠ 42) (h2 : c ≠ 43) (h3 : c ≠ 63) (h4 : c ≠ 93) : r.noAtom = false := by
  simp [Rd.noAtom, h.cur, h1, h2, h3, h4]

/-- The program of alternatives, of which each jumps to v. -/
def Re.codeTo : Re → Nat → Nat → List Inst
  | .alt e f, o, v => ⟨1, .zero, o + 1, o + 2 + e.len⟩ :: (e.code (o + 1) ++ ⟨2, .zero, v, 0⟩ :: f.codeTo (o + 2 + e.len) v)
  | e, o, _ => e.code o
theorem G.codeTo {T : Ty} {k : Nat} {w : List Nat} {e : Re} (h : G T k w e) : (T = .pieces → ∀ o v, e.codeTo o v = e.code o) ∧ (T = .alts → ∀ o, e.codeTo o (o + e.len) = e.code o) := by
  induction h with
  | none => exact ⟨fun _ _ _ => rfl, fun h => (by cases h)⟩
  | one => exact ⟨fun _ _ _ => rfl, fun h => (by cases h)⟩
  | star => exact ⟨fun _ _ _ => rfl, fun h => (by cases h)⟩
  | plus => exact ⟨fun _ _ _ => rfl, fun h => (by cases h)⟩
  | opt => exact ⟨fun _ _ _ => rfl, fun h => (by cases h)⟩
  | last _ ih => exact ⟨fun h => (by cases h), fun _ o => ih.1 rfl o _⟩
  | @alt k w e v f _ _ _ ih =>
    refine ⟨fun h => (by cases h), fun _ o => ?_⟩
    rw [Re.codeTo, Re.code, Re.len, ← ih.2 rfl (o + 2 + e.len), show o + (e.len + f.len + 2) = o + 2 + e.len + f.len by omega]
  | _ => exact ⟨fun h => (by cases h), fun h => (by cases h)⟩
theorem Re.codeTo_length : ∀ (e : Re) (o v : Nat), (e.codeTo o v).length = e.len
  | .alt e f, o, v => by simp [Re.codeTo, Re.len, Re.code_length, Re.codeTo_length f]; omega
  | .eps, o, v => Re.code_length _ _
  | .set _, o, v => Re.code_length _ _
  | .cat _ _, o, v => Re.code_length _ _
  | .star _, o, v => Re.code_length _ _
  | .plus _, o, v => Re.code_length _ _
  | .opt _, o, v => Re.code_length _ _
def toA (v : Nat) (x : Inst) : Inst := { x with a := v }
theorem setA_modify (v : Nat) : ∀ (o : List Nat) (l : List Inst) (q : Nat), Rd.setA (l.modify q (toA v)) v o = (Rd.setA l v o).modify q (toA v)
  | [], l, q => rfl
  | p :: o, l, q => by
    have hc : (l.modify q (toA v)).modify p (toA v) = (l.modify p (toA v)).modify q (toA v) := by
      apply List.ext_getElem?
      intro i
      simp only [List.getElem?_modify]
      cases l[i]? <;> simp only [Option.map_eq_map, Option.map_some, Option.map_none] <;> split <;> split <;> rfl
    show Rd.setA ((l.modify q (toA v)).modify p (toA v)) v o = _
    rw [hc, setA_modify v o]; rfl
theorem altsO_app (grp : Rd → Rd) : ∀ (n : Nat) (r : Rd) (o : List Nat), Rd.altsO grp n r o = o ++ Rd.altsO grp n r []
  | 0, _, o => by simp [Rd.altsO]
  | n + 1, r, o => by
    unfold Rd.altsO
    split
    · rw [altsO_app grp n _ (o ++ _), altsO_app grp n _ ([] ++ _)]; simp
    · simp
theorem modify_norm {l A C : List Inst} {x : Inst} (v : Nat) (h : l.map norm = A ++ x :: C) (hx : x.kind = 2) : (l.modify A.length (toA v)).map norm = A ++ toA v x :: C := by
  apply List.ext_getElem?
  intro i
  have hi := congrArg (fun m => m[i]?) h
  simp only [List.getElem?_map] at hi
  rw [List.getElem?_map]
  by_cases hA : A.length = i
  · subst hA
    rw [List.getElem?_modify_eq]
    simp only [List.getElem?_append_right (Nat.le_refl _), Nat.sub_self, List.getElem?_cons_zero] at hi ⊢
    cases hl : l[A.length]? with
    | none => rw [hl] at hi; cases hi
    | some y =>
      rw [hl] at hi
      simp only [Option.map_eq_map, Option.map_some, Option.some.injEq] at hi ⊢
      have hy : y.kind = 2 := by rw [← hi] at hx; unfold norm at hx; split at hx <;> simp_all
      subst hi
      simp [norm, toA, hy]
  · rw [List.getElem?_modify_ne _ _ hA, hi]
    by_cases hlt : i < A.length
    · rw [List.getElem?_append_left hlt, List.getElem?_append_left hlt]
    · rw [List.getElem?_append_right (by omega), List.getElem?_append_right (by omega)]
      obtain ⟨j, hj⟩ : ∃ j, i - A.length = j + 1 := ⟨i - A.length - 1, by omega⟩
      rw [hj]; rfl
end Go.Proofs.Ytokcffkffcfolaa.Rg
