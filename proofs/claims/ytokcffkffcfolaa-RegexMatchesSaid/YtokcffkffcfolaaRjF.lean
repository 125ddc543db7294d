/-
  The document's emit: alternatives.
-/
import Derived.Test.YtokcffkffcfolaaRjE
namespace Go.Proofs.Ytokcffkffcfolaa.Rh
open Go Go.RowKit Go.Proofs.Ytokcffkffcfolaa.Rg

/-- A place in the walk of alternatives: vo holds where jumps are to be told where they lead. -/
structure Alt (W : World) (base : Nat) (x : List Value) (v0 : Value) (wr : World) (vp : Value) (N : Nat) (M : List Inst) (vo : Value) (outs : List Nat) : Prop where
  e : Emi W base x v0 wr vp N M
  o : wr.ownsRow (W.heap.size + 1) 3 1 vo outs.length (outVals outs)
  ap : ∀ k, vp.ownBlock = some k → vo.ownBlock ≠ some k
section
variable {W wr w2 : World} {base : Nat} {x : List Value} {v0 vp v2 vo : Value} {M M2 : List Inst} {N N2 : Nat} {outs : List Nat}
theorem Alt.start (h : Emi W base x v0 wr vp N M) : Alt W base x v0 wr vp N M (.slice none 0 0) [] := ⟨h, World.ownsRow_nil _ _ _ _, fun _ _ e => by simp [Value.ownBlock] at e⟩
theorem Alt.alloc (h : Alt W base x v0 wr vp N M vo outs) (o : Obj) : Alt W base x v0 (wr.alloc o) vp N M vo outs := ⟨h.e.alloc o, h.o.alloc o, h.ap⟩
theorem Alt.call (h : Alt W base x v0 wr vp N M vo outs) (ho : w2.ownsRow base 87 259 v2 N2 (rflat M2)) (hl : M2.length = N2) (hg : Gro wr w2 vp v2) : Alt W base x v0 w2 v2 N2 M2 vo outs := by
  refine ⟨h.e.call ho hl hg, h.o.kept hg.grown ?_, fun k hk e => ?_⟩
  · cases hv : vo.ownBlock with
    | none => exact .inl rfl
    | some k => exact .inr (fun e => h.ap k e.symm hv)
  · rcases hg.own k hk with h1 | h1
    · exact h.ap k h1 e
    · have := (h.o.lt k e).2; omega
theorem Alt.set {g cap : Nat} (h : Alt W base x v0 wr (.slice (some ⟨g, 0, none⟩) N cap) N M vo outs) {i j : Nat} {y0 : Inst} (hi : M[i]? = some y0) (hj : j < 259) (u : Value) (y : Inst) (hy : (rcl y0).set j u = rcl y) :
    Alt W base x v0 (wr.setCell ⟨g, i * 259 + j, none⟩ u) (.slice (some ⟨g, 0, none⟩) N cap) N (M.set i y) vo outs :=
  ⟨h.e.set hi hj u y hy, own_set h.o (fun k hk e => h.ap g rfl (by rw [hk, e])) u, h.ap⟩
theorem Alt.grown {g cap H : Nat} {outs2 : List Nat} (h : Alt W base x v0 wr vp N M vo outs) (hg : wr.grownBy w2 vo.ownBlock) (hat : vo.ownBlock = some g ∨ g = H) (hH : wr.heap.size ≤ H)
    (ho : w2.ownsRow (W.heap.size + 1) 3 1 (.slice (some ⟨g, 0, none⟩) outs2.length cap) outs2.length (outVals outs2)) : Alt W base x v0 w2 vp N M (.slice (some ⟨g, 0, none⟩) outs2.length cap) outs2 := by
  have hp : vp.ownBlock = none ∨ vp.ownBlock ≠ vo.ownBlock := by
    cases hv : vp.ownBlock with
    | none => exact .inl rfl
    | some k => exact .inr (fun e => h.ap k hv e.symm)
  refine ⟨⟨h.e.own.kept hg hp, h.e.len, ⟨⟨hg.os.trans h.e.gro.grown.os, hg.tape.trans h.e.gro.grown.tape, hg.output.trans h.e.gro.grown.output, Nat.le_trans h.e.gro.grown.size hg.size, fun i hi hne => ?_⟩, h.e.gro.own⟩, h.e.old, h.e.bas⟩, ho, fun k hk e => ?_⟩
  · have hs := h.e.gro.grown.size
    refine (hg.block i (by omega) (fun e => ?_)).trans (h.e.gro.grown.block i hi hne)
    have := (h.o.lt i e.symm).1
    simp at hi; omega
  · simp [Value.ownBlock] at e
    subst e
    rcases hat with h1 | h1
    · exact h.ap g hk h1
    · have := (h.e.own.lt g hk).2; omega
end
/-- The call of emit for a kid. -/
theorem EmitC.runA {n : T} (hn : EmitC n) {W wr : World} {base : Nat} {x : List Value} {v0 v vo : Value} {M : List Inst} {N : Nat} {outs : List Nat} (h : Alt W base x v0 wr v N M vo outs) {c : List Value} (hH : Held W (fun b => b < base) n c) (hl : N + n.re.len ≤ 100000) :
    Calls Try.prog 37 #[v, .agg c.toArray] wr fun q w2 => ∃ ao cap, q = .returned (.slice ao (N + n.re.len) cap) ∧ Alt W base x v0 w2 (.slice ao (N + n.re.len) cap) (N + n.re.len) (M ++ n.re.code N) vo outs := by
  obtain rfl := h.e.len
  refine (hn wr base v M c h.e.own (by have := h.e.size; have := h.e.bas; omega) (h.e.held hH) hl).mono fun q w2 ⟨v2, hq, ho, hg⟩ => ?_
  have hl2 : (M ++ n.re.code M.length).length = M.length + n.re.len := by rw [List.length_append, Re.code_length]
  rw [hl2] at ho
  have hE := h.call ho hl2 hg
  obtain ⟨ao, cap, rfl⟩ := own_any ho
  exact ⟨ao, cap, hq, hE⟩
/-- One instruction more. -/
theorem wp_pushA {o : Oper} {a : Act} {K : Act → World → Prop} {Q : Exit → Act → World → Prop} (s xo : Operand)
    (ho : o.op = .call { callee := .builtin .append, args := #[s, xo], argTypes := #[84, 84] })
    {W wr : World} {base : Nat} {x : List Value} {v0 v vo : Value} {M : List Inst} {N : Nat} {outs : List Nat} (h : Alt W base x v0 wr v N M vo outs) (hM : N ≤ 100000) (k : Int) (f : Nat → Bool) (A B : Int) (y : Inst) (hy : rcl y = icl k f A B)
    (hs : a.eval s = v) (hx : a.eval xo = .slice (some ⟨wr.heap.size, 0, none⟩) 1 1)
    (hk : ∀ g cap w', Alt W base x v0 w' (.slice (some ⟨g, 0, none⟩) (N + 1) cap) (N + 1) (M ++ [y]) vo outs → K (a.put o.dst (.slice (some ⟨g, 0, none⟩) (N + 1) cap)) w') :
    o.wp Try.prog a (wr.alloc (.cells (icl k f A B).toArray 87)) K Q := by
  obtain ⟨i0, hi0, hz0, hz1, hz2⟩ := info_parts infoInst3
  refine wp_append_lies _ s xo 84 ho base 87 i0 (.agg (icl 0 (fun _ => false) 0 0).toArray) 259 280 Try.underlying84 hi0 hz0 hz1 hz2 (by simp [Value.cells, icl_length]) (by decide) v N (rflat M) hs (h.e.own.alloc _) ⟨wr.heap.size, 0, none⟩ 1 1 (icl k f A B) hx (by rw [icl_length]) (World.news_of_block (cs := (icl k f A B).toArray) (t := 87) (fr := (0, 0)) (blk_new _ _)) (icl_one _ _ _ _) (by decide) (by unfold maxLen; omega) (by omega) (by have := h.e.size; have := h.e.bas; simp; omega) (wr.heap.size + 1) (by simp) ?_
  intro g cap w' hown hgrow hat hlt
  refine hk g cap w' (h.call ?_ (by rw [List.length_append, h.e.len]; rfl) (((Gro.refl wr v).alloc _).app hgrow hat (by omega)))
  rw [rflat_append, rflat_one, hy]
  exact hown
/-- One place more. -/
theorem wp_out {o : Oper} {a : Act} {K : Act → World → Prop} {Q : Exit → Act → World → Prop} (s xo : Operand)
    (ho : o.op = .call { callee := .builtin .append, args := #[s, xo], argTypes := #[73, 73] })
    {W wr : World} {base : Nat} {x : List Value} {v0 v vo : Value} {M : List Inst} {N : Nat} {outs : List Nat} (h : Alt W base x v0 wr v N M vo outs) (hM : outs.length ≤ 100000) (X : Int) (p : Nat) (hX : X = p)
    (hs : a.eval s = vo) (hx : a.eval xo = .slice (some ⟨wr.heap.size, 0, none⟩) 1 1)
    (hk : ∀ g cap w', Alt W base x v0 w' v N M (.slice (some ⟨g, 0, none⟩) (outs.length + 1) cap) (outs ++ [p]) → K (a.put o.dst (.slice (some ⟨g, 0, none⟩) (outs.length + 1) cap)) w') :
    o.wp Try.prog a (wr.alloc (.cells #[.int .i64 X] 3)) K Q := by
  obtain ⟨i0, hi0, hz0, hz1, hz2⟩ := info_parts infoInt
  have ha := h.alloc (.cells #[.int .i64 X] 3)
  refine wp_append_lies _ s xo 73 ho (W.heap.size + 1) 3 i0 (.int .i64 0) 1 8 Try.underlying73 hi0 hz0 hz1 hz2 rfl (by decide) vo outs.length (outVals outs) hs ha.o ⟨wr.heap.size, 0, none⟩ 1 1 [.int .i64 X] hx rfl (World.news_of_block (cs := #[.int .i64 X]) (t := 3) (fr := (0, 0)) (blk_new _ _)) (by simp [Value.oneCell']) (by decide) (by unfold maxLen; omega) (by omega) (by have := h.e.size; simp; omega) (wr.heap.size + 1) (by simp) ?_
  intro g cap w' hown hgrow hat hlt
  have e : (outs ++ [p]).length = outs.length + 1 := by simp
  have := ha.grown (outs2 := outs ++ [p]) hgrow hat (by simp) (by rw [e]; subst hX; simpa [outVals] using hown)
  rw [e] at this
  exact hk g cap w' this

theorem wpList_out {ops : Array Oper} {rest : List Oper} {o : Oper} {a : Act} {Q : Exit → Act → World → Prop} (hgd : o.guard = none) (s xo : Operand)
    (ho : o.op = .call { callee := .builtin .append, args := #[s, xo], argTypes := #[73, 73] })
    {W wr : World} {base : Nat} {x : List Value} {v0 v vo : Value} {M : List Inst} {N : Nat} {outs : List Nat} (h : Alt W base x v0 wr v N M vo outs) (hM : outs.length ≤ 100000) (X : Int) (p : Nat) (hX : X = p)
    (hs : a.eval s = vo) (hx : a.eval xo = .slice (some ⟨wr.heap.size, 0, none⟩) 1 1)
    (hk : ∀ g cap w', Alt W base x v0 w' v N M (.slice (some ⟨g, 0, none⟩) (outs.length + 1) cap) (outs ++ [p]) → wpList Try.prog ops Q rest (a.put o.dst (.slice (some ⟨g, 0, none⟩) (outs.length + 1) cap)) w') :
    wpList Try.prog ops Q (o :: rest) a (wr.alloc (.cells #[.int .i64 X] 3)) :=
  wpList_plain hgd fun _ hK => wp_out s xo ho h hM X p hX hs hx fun g cap w' h2 => hK _ _ (hk g cap w' h2)

/-! Rows of alternatives, piece by piece -/
def altM (ks : List T) (n : T) (o k : Nat) : List Inst := segs (ks.take k) o 0 ++ (if k ≤ ks.length then [] else n.re.code (o + lenS ks))
def altN (ks : List T) (n : T) (o k : Nat) : Nat := o + lenS (ks.take k) + (if k ≤ ks.length then 0 else n.re.len)
theorem altM_zero (ks : List T) (n : T) (o : Nat) : altM ks n o 0 = [] := by simp [altM, segs]
theorem altN_zero (ks : List T) (n : T) (o : Nat) : altN ks n o 0 = o := by simp [altN, lenS]
theorem altM_step {ks : List T} {n y : T} {o k : Nat} (h : ks[k]? = some y) : altM ks n o (k + 1) = altM ks n o k ++ seg y (altN ks n o k) 0 := by
  have hlt := (List.getElem?_eq_some_iff.1 h).1
  rw [altM, altM, altN, if_pos (by omega), if_pos (by omega), if_pos (by omega), take_one h, segs_app]
  simp [segs]
theorem altN_step {ks : List T} {n y : T} {o k : Nat} (h : ks[k]? = some y) : altN ks n o (k + 1) = altN ks n o k + y.re.len + 2 := by
  have hlt := (List.getElem?_eq_some_iff.1 h).1
  rw [altN, altN, if_pos (by omega), if_pos (by omega), take_one h, lenS_app]
  simp [lenS]; omega
theorem outs_step {ks : List T} {y : T} {n : T} {o k : Nat} (h : ks[k]? = some y) : outsOf (ks.take (k + 1)) o = outsOf (ks.take k) o ++ [altN ks n o k + y.re.len + 1] := by
  have hlt := (List.getElem?_eq_some_iff.1 h).1
  rw [take_one h, outsOf_app, altN, if_pos (by omega)]
  simp [outsOf]
theorem altM_last (ks : List T) (n : T) (o : Nat) : altM ks n o (ks.length + 1) = altM ks n o ks.length ++ n.re.code (altN ks n o ks.length) := by
  rw [altM, altM, altN, if_neg (by omega), if_pos (by omega), if_pos (by omega), List.take_length, List.take_of_length_le (by omega)]
  simp
theorem altN_last (ks : List T) (n : T) (o : Nat) : altN ks n o (ks.length + 1) = altN ks n o ks.length + n.re.len := by
  rw [altN, altN, if_neg (by omega), if_pos (by omega), List.take_length, List.take_of_length_le (by omega)]
  simp
theorem lenS_take (l : List T) (k : Nat) : lenS (l.take k) ≤ lenS l := by
  have := lenS_app (l.take k) (l.drop k)
  rw [List.take_append_drop] at this
  omega
theorem altN_le (ks : List T) (n : T) (o k : Nat) : altN ks n o k ≤ o + lenS ks + n.re.len := by
  have := lenS_take ks k
  rw [altN]; split <;> omega
theorem outs_take (ks : List T) (o : Nat) : outsOf (ks.take (ks.length + 1)) o = outsOf ks o := by rw [List.take_of_length_le (by omega)]
theorem outsOf_lt : ∀ (l : List T) (o : Nat), ∀ p ∈ outsOf l o, p < o + lenS l
  | [], _, p, h => by cases h
  | n :: r, o, p, h => by
    rw [outsOf, List.mem_cons] at h
    rw [lenS]
    rcases h with rfl | h
    · omega
    · have := outsOf_lt r _ p h; omega
theorem setA_append (l : List Inst) (v : Nat) : ∀ (a b : List Nat), Rd.setA l v (a ++ b) = Rd.setA (Rd.setA l v a) v b
  | [], b => rfl
  | p :: a, b => by
    rw [List.cons_append, Rd.setA, Rd.setA, setA_append (l.modify p fun x => { x with a := v }) v a b]
theorem setA_length (v : Nat) : ∀ (l : List Inst) (a : List Nat), (Rd.setA l v a).length = l.length
  | l, [] => rfl
  | l, p :: a => by rw [Rd.setA, setA_length v _ a]; simp
theorem setA_next (l : List Inst) (v : Nat) {outs : List Nat} {i p : Nat} {y : Inst} (h : outs[i]? = some p) (hy : (Rd.setA l v (outs.take i))[p]? = some y) :
    Rd.setA l v (outs.take (i + 1)) = (Rd.setA l v (outs.take i)).set p { y with a := v } := by
  obtain ⟨hlt, rfl⟩ := List.getElem?_eq_some_iff.1 h
  rw [List.take_succ_eq_append_getElem hlt, setA_append]
  show (Rd.setA l v (outs.take i)).modify outs[i] _ = _
  apply List.ext_getElem?
  intro j
  rw [List.getElem?_modify, List.getElem?_set]
  obtain ⟨hl, _⟩ := List.getElem?_eq_some_iff.1 hy
  by_cases e : outs[i] = j
  · rw [if_pos e, if_pos hl, ← e, hy]; simp
  · rw [if_neg e]; simp [e]
theorem alt_done (L : List Inst) (l : T) (n : T) (hl : l.isL) : Rd.setA (L ++ altM l.kids n L.length (l.kids.length + 1)) (altN l.kids n L.length (l.kids.length + 1)) (outsOf l.kids L.length) = L ++ (T.node 2 (.snoc l n)).re.code L.length := by
  have h1 : (T.node 2 (.snoc l n)).re = l.altJ n.re := by simp [T.re, T.all]
  rw [h1, (altJ_code l n.re L.length hl).2, altM_last, altN_last]
  have h2 : altM l.kids n L.length l.kids.length = segs l.kids L.length 0 := by rw [altM, if_pos (Nat.le_refl _), List.take_length, List.append_nil]
  have h3 : altN l.kids n L.length l.kids.length = L.length + lenS l.kids := by rw [altN, if_pos (Nat.le_refl _), List.take_length, Nat.add_zero]
  rw [h2, h3, ← List.append_assoc, setA_segs, List.append_assoc]
end Go.Proofs.Ytokcffkffcfolaa.Rh
