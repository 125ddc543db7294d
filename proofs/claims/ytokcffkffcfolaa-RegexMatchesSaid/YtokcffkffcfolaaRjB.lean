/-
  The document's emit: a node's instructions behind those that are there.
-/
import Derived.Test.YtokcffkffcfolaaRjA
import Derived.Test.YtokcffkffcfolaaRhC
import Derived.Test.YtokcffkffcfolaaRhM
namespace Go.Proofs.Ytokcffkffcfolaa.Rh
open Go Go.RowKit Go.Proofs.Ytokcffkffcfolaa.Rg

/-- But for v's own row nothing that was there turns; v' is v's row, or a new one. -/
structure Gro (W W' : World) (v v' : Value) : Prop where
  grown : W.grownBy W' v.ownBlock
  own : ∀ k, v'.ownBlock = some k → v.ownBlock = some k ∨ W.heap.size ≤ k
theorem Gro.refl (W : World) (v : Value) : Gro W W v v := ⟨⟨rfl, rfl, rfl, Nat.le_refl _, fun _ _ _ => rfl⟩, fun _ h => .inl h⟩
theorem Gro.trans {W W1 W2 : World} {v v1 v2 : Value} (h : Gro W W1 v v1) (k : Gro W1 W2 v1 v2) : Gro W W2 v v2 := by
  have hs := h.grown.size
  refine ⟨⟨k.grown.os.trans h.grown.os, k.grown.tape.trans h.grown.tape, k.grown.output.trans h.grown.output, Nat.le_trans hs k.grown.size, fun i hi hne => ?_⟩, fun i hi => ?_⟩
  · refine (k.grown.block i (by omega) (fun e => ?_)).trans (h.grown.block i hi hne)
    rcases h.own i e.symm with h1 | h1
    · exact hne h1.symm
    · omega
  · rcases k.own i hi with h1 | h1
    · exact h.own i h1
    · exact .inr (by omega)
theorem Gro.alloc {W W1 : World} {v v1 : Value} (h : Gro W W1 v v1) (o : Obj) : Gro W (W1.alloc o) v v1 :=
  ⟨⟨h.grown.os, h.grown.tape, h.grown.output, by have := h.grown.size; simp; omega, fun i hi hne => (Below.heap_alloc _ _ _ (Nat.lt_of_lt_of_le hi h.grown.size)).trans (h.grown.block i hi hne)⟩, h.own⟩
theorem Gro.app {W W1 W2 : World} {v v1 : Value} {gg n cap H : Nat} (h : Gro W W1 v v1) (hg : W1.grownBy W2 v1.ownBlock) (hat : v1.ownBlock = some gg ∨ gg = H) (hH : W.heap.size ≤ H) : Gro W W2 v (.slice (some ⟨gg, 0, none⟩) n cap) := by
  have hs := h.grown.size
  refine ⟨⟨hg.os.trans h.grown.os, hg.tape.trans h.grown.tape, hg.output.trans h.grown.output, Nat.le_trans hs hg.size, fun i hi hne => ?_⟩, fun i hi => ?_⟩
  · refine (hg.block i (by omega) (fun e => ?_)).trans (h.grown.block i hi hne)
    rcases h.own i e.symm with h1 | h1
    · exact hne h1.symm
    · omega
  · simp [Value.ownBlock] at hi
    subst hi
    rcases hat with h1 | h1
    · exact h.own _ h1
    · exact .inr (by omega)
theorem Gro.below {W W' : World} {v v' : Value} {base : Nat} (h : Gro W W' v v') (hb : base ≤ W.heap.size) (hv : ∀ k, v.ownBlock = some k → base ≤ k) : Below base W W' :=
  ⟨h.grown.os, h.grown.tape, h.grown.output, h.grown.size, fun i hi => h.grown.block i (by omega) (fun e => by have := hv i e.symm; omega)⟩
/-- What emit does of the tree t. -/
def EmitC (t : T) : Prop := ∀ (W : World) (base : Nat) (v : Value) (L : List Inst) (cs : List Value), W.ownsRow base 87 259 v L.length (rflat L) → base ≤ W.heap.size → Held W (fun b => b < base) t cs → L.length + t.re.len ≤ 100000 →
  Calls Try.prog 37 #[v, .agg cs.toArray] W fun q W' => ∃ v', q = .returned v' ∧ W'.ownsRow base 87 259 v' (L ++ t.re.code L.length).length (rflat (L ++ t.re.code L.length)) ∧ Gro W W' v v'

theorem Held.shape {W : World} {F : Nat → Prop} {t : T} {cs : List Value} (h : Held W F t cs) (hN : t.isN) : ∃ (k : Nat) (v : Value) (f : Nat → Bool), cs = ncl k v f ∧ v.oneCell' = true := by
  cases t with
  | set S => exact ⟨3, nilS, S.has, h, rfl⟩
  | node k l =>
    obtain ⟨v, ls, hc, _, hK⟩ := h
    refine ⟨k, v, none256, hc, ?_⟩
    rcases hK with ⟨_, rfl⟩ | ⟨_, _, b, cap, _, rfl, _⟩ <;> rfl
  | nil => rw [T.isN] at hN; exact hN.elim
  | snoc l n => rw [T.isN] at hN; exact hN.elim
/-- One kid of a row. -/
theorem Held.kid {W : World} {F : Nat → Prop} : ∀ {l : T} {ls : List Value}, l.isL → Held W F l ls → ls.length = l.len * 258 ∧ ∀ (i : Nat) (n : T), l.kids[i]? = some n → ∃ c : List Value, c.length = 258 ∧ Held W F n c ∧ ∀ j, j < 258 → ls[i * 258 + j]? = c[j]?
  | .snoc l m, ls, hL, ⟨a, b, hc, ha, hb, h1, h2⟩ => by
    rw [T.isL] at hL
    obtain ⟨e1, e2⟩ := Held.kid hL.1 h1
    subst hc
    refine ⟨by rw [List.length_append, ha, hb]; show _ = (l.len + 1) * 258; omega, fun i n hi => ?_⟩
    have hkl := T.kids_length l hL.1
    rw [T.kids] at hi
    by_cases hlt : i < l.kids.length
    · rw [List.getElem?_append_left hlt] at hi
      obtain ⟨c, h3, h4, h5⟩ := e2 i n hi
      refine ⟨c, h3, h4, fun j hj => ?_⟩
      rw [List.getElem?_append_left (by rw [ha]; rw [hkl] at hlt; omega)]
      exact h5 j hj
    · rw [List.getElem?_append_right (by omega)] at hi
      have hi0 : i = l.len := by
        have := (List.getElem?_eq_some_iff.1 hi).1
        simp at this; omega
      subst hi0
      rw [hkl, Nat.sub_self] at hi
      simp at hi
      subst hi
      refine ⟨b, hb, h2, fun j hj => ?_⟩
      rw [List.getElem?_append_right (by omega), ha]
      congr 1; omega
  | .nil, ls, _, h => by
    have : ls = [] := h
    subst this
    exact ⟨rfl, fun i n hi => by simp [T.kids] at hi⟩
  | .set _, _, hL, _ => by rw [T.isL] at hL; exact hL.elim
  | .node _ _, _, hL, _ => by rw [T.isL] at hL; exact hL.elim

theorem range_new (W : World) {k : Int} {v : Value} {f : Nat → Bool} {x : List Value} (hx : x = ncl k v f) : (W.alloc (.cells x.toArray 38)).rangeAt W.heap.size 2 (bcells f) := fun j u hu => by
  rw [cell_of_row _ _ _ _ _ _ (blk_new W _), hx, List.getElem?_toArray, ncl, show 2 + j = j + 1 + 1 by omega, List.getElem?_cons_succ, List.getElem?_cons_succ]
  exact hu
theorem wp_buildTo {P : Program} {o : Oper} {a : Act} {w : World} {K : Act → World → Prop} {Q : Exit → Act → World → Prop} (t : TypeId) (parts : Array (Nat × Operand)) (ho : o.op = .build t parts)
    (cells : Array Value) (hf : P.built t (parts.map fun (i, x) => (i, a.eval x)).toList = some cells) (h : K (a.put o.dst (.agg cells)) w) : o.wp P a w K Q := by
  unfold Oper.wp execOp
  simp only [ho, Sem.run_bind, run_build w t _ _ hf, Result.andThen_ok]
  exact h

theorem zero87 : Try.zeroCells87 = (icl 0 (fun _ => false) 0 0).toArray := by kernel_rfl
theorem icl_set0 (k k' : Int) (f : Nat → Bool) (a b : Int) : (icl k f a b).set 0 (.int .i64 k') = icl k' f a b := by rw [icl, List.set_cons_zero]; rfl
theorem icl_setA (k a' : Int) (f : Nat → Bool) (a b : Int) : (icl k f a b).set 257 (.int .i64 a') = icl k f a' b := by
  rw [icl, List.set_cons_succ, List.set_append_right _ _ (by rw [bcells_length]; omega), bcells_length]; rfl
theorem icl_setB (k b' : Int) (f : Nat → Bool) (a b : Int) : (icl k f a b).set 258 (.int .i64 b') = icl k f a b' := by
  rw [icl, List.set_cons_succ, List.set_append_right _ _ (by rw [bcells_length]; omega), bcells_length]; rfl
theorem icl_one (k : Int) (f : Nat → Bool) (a b : Int) : ∀ u ∈ icl k f a b, u.oneCell' = true := by
  intro u hu
  simp only [icl, bcells, List.mem_cons, List.mem_append, List.mem_map, List.not_mem_nil, or_false] at hu
  rcases hu with rfl | ⟨c, _, rfl⟩ | rfl | rfl <;> rfl
theorem fold_set (f : Nat → Bool) : List.foldl (fun (cs : Array Value) (x : Value × Nat) => cs.setIfInBounds (1 + x.snd) x.fst) (icl 1 (fun _ => false) 0 0).toArray (bcells f).zipIdx = (icl 1 f 0 0).toArray := by
  obtain ⟨g1, g2⟩ := Great.foldl_set 1 (bcells f) 0 (icl 1 (fun _ => false) 0 0).toArray
  apply Array.ext_getElem?
  intro k
  have := g2 k
  rw [this, icl_size]
  simp only [Nat.add_zero, bcells_length, List.getElem?_toArray, icl]
  cases k with
  | zero => simp
  | succ k =>
    rw [List.getElem?_cons_succ, List.getElem?_cons_succ]
    by_cases hk : k < 256
    · rw [if_pos (by omega), List.getElem?_append_left (by rw [bcells_length]; exact hk), show k + 1 - 1 = k by omega]
    · rw [if_neg (by omega), List.getElem?_append_right (by rw [bcells_length]; omega), List.getElem?_append_right (by rw [bcells_length]; omega), bcells_length, bcells_length]

set_option maxRecDepth 100000 in
set_option maxHeartbeats 8000000 in
theorem emit_set (S : Bs) : EmitC (.set S) := by
  intro W base v L cs hown hbase hH hlen
  have hH' : cs = ncl 3 nilS S.has := hH
  subst hH'
  have hne := ncl_ne 3 nilS S.has
  have hln := ncl_length 3 nilS S.has
  have hg0 : ∀ h : 0 < (ncl 3 nilS S.has).length, (ncl 3 nilS S.has)[0]'h = .int .i64 3 := fun _ => rfl
  obtain ⟨ao, cap, rfl⟩ := own_any hown
  obtain ⟨i0, hi0, hz0, hz1, hz2⟩ := info_parts infoInst3
  obtain ⟨x, hx⟩ : ∃ x, x = ncl 3 nilS S.has := ⟨_, rfl⟩
  rw [← hx] at hne hln hg0 ⊢
  have HX := Lib.hid hx; clear hx
  have HOwn := Lib.hid hown; clear hown hH
  have hL : L.length ≤ 100000 := by omega
  go_enter Try.func37, Try.ntmps37
  have hrg : (W.alloc (.cells x.toArray 38)).rangeAt W.heap.size 2 (bcells S.has) := range_new W (by rw [HX.out])
  have HRg := Lib.hid hrg; clear hrg
  have hbl := bcells_length S.has
  have hz87 := zero87
  have hk1 := icl_set0 0 1 (fun _ => false) 0 0
  have hfold := fold_set S.has
  obtain ⟨y, hy⟩ : ∃ y, y = bcells S.has := ⟨_, rfl⟩
  rw [← hy] at hbl hfold HRg
  have hbi : (Try.prog.info? 36).map (·.size) = some y.length := by rw [hbl]; kernel_rfl
  have HBi := Lib.hid hbi; clear hbi
  clear hy
  go_wp2_with fail
  refine wp_load_mid 36 (.tmp 18) rfl W.heap.size 2 rfl y _ HRg.out Try.underlying36 rfl HBi.out ?_
  go_wp2_with fail
  refine wp_slice1 84 87 259 _ (.tmp 20) rfl (icl 1 S.has 0 0).toArray rfl Try.underlying84 infoInst (by decide) (by decide) (icl_size _ _ _ _) ?_
  go_wp2_with fail
  refine wp_append_lies _ (.tmp 17) (.tmp 21) 84 rfl base 87 i0 (.agg (icl 0 (fun _ => false) 0 0).toArray) 259 280 Try.underlying84 hi0 hz0 hz1 hz2 (by simp [Value.cells, icl_length]) (by decide) (.slice ao L.length cap) L.length (rflat L) rfl ((HOwn.out.alloc _).alloc _) ⟨(W.alloc (.cells x.toArray 38)).heap.size, 0, none⟩ 1 1 (icl 1 S.has 0 0) rfl (by rw [icl_length]) (World.news_of_block (cs := (icl 1 S.has 0 0).toArray) (t := 87) (fr := (0, 0)) (blk_new _ _)) (icl_one _ _ _ _) (by decide) (by unfold maxLen; omega) (by omega) (by simp; omega) (W.heap.size + 2) (by simp) ?_
  intro gg cap2 w9 hown9 hgrow9 hat9 hlt9
  have hb9 := (((Gro.refl W (.slice ao L.length cap)).alloc (.cells x.toArray 38)).alloc (.cells (icl 1 S.has 0 0).toArray 87)).app (n := L.length + 1) (cap := cap2) hgrow9 hat9 (by omega)
  have HAp := Lib.hid (And.intro hown9 hb9); clear hown9 hgrow9 hat9 hlt9 hb9
  go_wp2_with fail
  go_ret
  refine ⟨_, rfl, ?_, HAp.out.2⟩
  have e : L ++ (T.set S).re.code L.length = L ++ [⟨0, S, 0, 0⟩] := by rw [T.re, Re.code]
  rw [e, List.length_append, rflat_append, rflat_one]
  exact HAp.out.1
end Go.Proofs.Ytokcffkffcfolaa.Rh
