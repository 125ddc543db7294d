/-
  The document's emit: what holds at a place of its walk (Emi); its laws.
-/
import Derived.Test.YtokcffkffcfolaaRjC
namespace Go.Proofs.Ytokcffkffcfolaa.Rh
open Go Go.RowKit Go.Proofs.Ytokcffkffcfolaa.Rg

theorem own_old {W : World} {base : Nat} {e : TypeId} {size : Nat} {v : Value} {n : Nat} {xs : List Value} (h : W.ownsRow base e size v n xs) {k : Nat} (hk : v.ownBlock = some k) : k < W.heap.size := (h.lt _ hk).2

/-- A place in the walk: the node's own block is the first new one; the row v holds the program M. -/
structure Emi (W : World) (base : Nat) (x : List Value) (v0 : Value) (wr : World) (v : Value) (N : Nat) (M : List Inst) : Prop where
  own : wr.ownsRow base 87 259 v N (rflat M)
  len : M.length = N
  gro : Gro (W.alloc (.cells x.toArray 38)) wr v0 v
  old : ∀ k, v0.ownBlock = some k → base ≤ k ∧ k < W.heap.size
  bas : base ≤ W.heap.size
section
variable {W wr w2 : World} {base : Nat} {x : List Value} {v0 v v2 : Value} {M M2 : List Inst} {N N2 : Nat}
theorem Emi.start (h : W.ownsRow base 87 259 v M.length (rflat M)) (hb : base ≤ W.heap.size) : Emi W base x v (W.alloc (.cells x.toArray 38)) v M.length M :=
  ⟨h.alloc _, rfl, Gro.refl _ _, fun _ hk => h.lt _ hk, hb⟩
theorem Emi.size (h : Emi W base x v0 wr v N M) : W.heap.size + 1 ≤ wr.heap.size := by have := h.gro.grown.size; simpa using this
theorem Emi.box (h : Emi W base x v0 wr v N M) : wr.heap[W.heap.size]? = some (.cells x.toArray 38 (0, 0)) :=
  (h.gro.grown.block _ (by simp) (fun e => by have := (h.old _ e.symm).2; omega)).trans (blk_new W _)
theorem Emi.low (h : Emi W base x v0 wr v N M) {b : Nat} (hb : b < base) : wr.heap[b]? = W.heap[b]? :=
  (h.gro.grown.block b (by have := h.bas; simp; omega) (fun e => by have := (h.old _ e.symm).1; omega)).trans (Below.heap_alloc _ _ _ (by have := h.bas; omega))
theorem Emi.alloc (h : Emi W base x v0 wr v N M) (o : Obj) : Emi W base x v0 (wr.alloc o) v N M := ⟨h.own.alloc o, h.len, h.gro.alloc o, h.old, h.bas⟩
theorem Emi.call (h : Emi W base x v0 wr v N M) (ho : w2.ownsRow base 87 259 v2 N2 (rflat M2)) (hl : M2.length = N2) (hg : Gro wr w2 v v2) : Emi W base x v0 w2 v2 N2 M2 :=
  ⟨ho, hl, h.gro.trans hg, h.old, h.bas⟩
theorem Emi.held (h : Emi W base x v0 wr v N M) {t : T} {c : List Value} (hH : Held W (fun b => b < base) t c) : Held wr (fun b => b < base) t c :=
  hH.keep fun _ hb _ => ⟨h.low hb, hb⟩
theorem Emi.range (h : Emi W base x v0 wr v N M) {b o : Nat} {c : List Value} (hb : b < base) (hr : W.rangeAt b o c) : wr.rangeAt b o c :=
  range_keep hr fun _ => h.low hb
theorem Emi.done (h : Emi W base x v0 wr v N M) {M2 : List Inst} (e : M = M2) : wr.ownsRow base 87 259 v M2.length (rflat M2) ∧ Gro W wr v0 v := by
  subst e
  exact ⟨by rw [h.len]; exact h.own, ((Gro.refl W v0).alloc _).trans h.gro⟩
theorem Emi.form (h : Emi W base x v0 wr v N M) (hN : 0 < N) : ∃ g cap, v = .slice (some ⟨g, 0, none⟩) N cap := by
  obtain ⟨g, cap, hv, _⟩ := h.own.form hN
  exact ⟨g, cap, hv⟩
/-- One field of an instruction is written. -/
theorem Emi.set {g cap : Nat} (h : Emi W base x v0 wr (.slice (some ⟨g, 0, none⟩) N cap) N M) {i j : Nat} {y0 : Inst} (hi : M[i]? = some y0) (hj : j < 259) (u : Value) (y : Inst) (hy : (rcl y0).set j u = rcl y) :
    Emi W base x v0 (wr.setCell ⟨g, i * 259 + j, none⟩ u) (.slice (some ⟨g, 0, none⟩) N cap) N (M.set i y) := by
  have hs := h.own.stored (i * 259 + j) u
  obtain ⟨hlt, rfl⟩ := List.getElem?_eq_some_iff.1 hi
  refine ⟨?_, by rw [List.length_set, h.len], h.gro.trans ⟨hs.2, fun k hk => .inl hk⟩, h.old, h.bas⟩
  rw [← rflat_set M i j hlt u y hy.symm hj]
  exact hs.1
theorem Emi.cell {g cap : Nat} (h : Emi W base x v0 wr (.slice (some ⟨g, 0, none⟩) N cap) N M) {i : Nat} {y0 : Inst} (hi : M[i]? = some y0) (j : Nat) (hj : j < 259) : wr.cell? ⟨g, i * 259 + j, none⟩ = (rcl y0)[j]? := by
  obtain ⟨hlt, rfl⟩ := List.getElem?_eq_some_iff.1 hi
  rw [h.own.cellAt (i * 259 + j) (by have := h.len; omega), rflat_get _ _ _ hlt hj]
theorem Emi.fz {g cap : Nat} (h : Emi W base x v0 wr (.slice (some ⟨g, 0, none⟩) N cap) N M) (j : Nat) : wr.frozen? ⟨g, j, none⟩ = false := h.own.frozenAt j
end
/-- The call of emit for a kid. -/
theorem EmitC.run {n : T} (hn : EmitC n) {W wr : World} {base : Nat} {x : List Value} {v0 v : Value} {M : List Inst} {N : Nat} (h : Emi W base x v0 wr v N M) {c : List Value} (hH : Held W (fun b => b < base) n c) (hl : N + n.re.len ≤ 100000) :
    Calls Try.prog 37 #[v, .agg c.toArray] wr fun q w2 => ∃ ao cap, q = .returned (.slice ao (N + n.re.len) cap) ∧ Emi W base x v0 w2 (.slice ao (N + n.re.len) cap) (N + n.re.len) (M ++ n.re.code N) := by
  obtain rfl := h.len
  refine (hn wr base v M c h.own (by have := h.size; have := h.bas; omega) (h.held hH) hl).mono fun q w2 ⟨v2, hq, ho, hg⟩ => ?_
  have hl2 : (M ++ n.re.code M.length).length = M.length + n.re.len := by rw [List.length_append, Re.code_length]
  rw [hl2] at ho
  have hE := h.call ho hl2 hg
  obtain ⟨ao, cap, rfl⟩ := own_any ho
  exact ⟨ao, cap, hq, hE⟩
/-- One instruction more. -/
theorem wp_push {o : Oper} {a : Act} {K : Act → World → Prop} {Q : Exit → Act → World → Prop} (s xo : Operand)
    (ho : o.op = .call { callee := .builtin .append, args := #[s, xo], argTypes := #[84, 84] })
    {W wr : World} {base : Nat} {x : List Value} {v0 v : Value} {M : List Inst} {N : Nat} (h : Emi W base x v0 wr v N M) (hM : N ≤ 100000) (k : Int) (f : Nat → Bool) (A B : Int) (y : Inst) (hy : rcl y = icl k f A B)
    (hs : a.eval s = v) (hx : a.eval xo = .slice (some ⟨wr.heap.size, 0, none⟩) 1 1)
    (hk : ∀ g cap w', Emi W base x v0 w' (.slice (some ⟨g, 0, none⟩) (N + 1) cap) (N + 1) (M ++ [y]) → K (a.put o.dst (.slice (some ⟨g, 0, none⟩) (N + 1) cap)) w') :
    o.wp Try.prog a (wr.alloc (.cells (icl k f A B).toArray 87)) K Q := by
  obtain ⟨i0, hi0, hz0, hz1, hz2⟩ := info_parts infoInst3
  refine wp_append_lies _ s xo 84 ho base 87 i0 (.agg (icl 0 (fun _ => false) 0 0).toArray) 259 280 Try.underlying84 hi0 hz0 hz1 hz2 (by simp [Value.cells, icl_length]) (by decide) v N (rflat M) hs (h.own.alloc _) ⟨wr.heap.size, 0, none⟩ 1 1 (icl k f A B) hx (by rw [icl_length]) (World.news_of_block (cs := (icl k f A B).toArray) (t := 87) (fr := (0, 0)) (blk_new _ _)) (icl_one _ _ _ _) (by decide) (by unfold maxLen; omega) (by omega) (by have := h.size; have := h.bas; simp; omega) (wr.heap.size + 1) (by simp) ?_
  intro g cap w' hown hgrow hat hlt
  refine hk g cap w' ⟨?_, by rw [List.length_append, h.len]; rfl, (h.gro.alloc _).app hgrow hat (by have := h.gro.grown.size; omega), h.old, h.bas⟩
  rw [rflat_append, rflat_one, hy]
  exact hown

set_option maxRecDepth 100000 in
set_option maxHeartbeats 8000000 in
theorem emit_opt (n : T) (hn : EmitC n) (hnN : n.isN) : EmitC (.node 6 (.snoc .nil n)) := by
  intro W base v L cs hown hbase hH hlen
  obtain ⟨n', b, cap, c, hl, _, hcs, hb, hcl, hHc, hr⟩ := hH.only (one_isL hnN).1 rfl
  have : n' = n := by simpa using hl.symm
  subst this
  have hX := nodeX 6 (.slice (some ⟨b, 0, none⟩) 1 cap)
  have hcs' : cs = ncl 6 (.slice (some ⟨b, 0, none⟩) 1 cap) none256 := hcs
  rw [← hcs'] at hX
  clear hcs hcs' hl
  have hel : (T.node 6 (.snoc .nil n')).re.len = n'.re.len + 1 := by simp [T.re, T.last, Re.len]
  have hec : (T.node 6 (.snoc .nil n')).re.code L.length = ⟨1, .zero, L.length + 1, L.length + n'.re.len + 1⟩ :: n'.re.code (L.length + 1) := by simp [T.re, T.last, Re.code]
  rw [hel] at hlen
  have HEc := Lib.hid hec; clear hec hel
  have hE := Emi.start (x := cs) hown hbase
  obtain ⟨ao, capv, rfl⟩ := own_any hown
  have hln := hX.len
  have hne := hX.ne
  have hg0 := hX.g0
  have hg1 := hX.g1
  have HX := Lib.hid hX; clear hX
  have HHc := Lib.hid hHc; clear hHc hH
  have HR := Lib.hid hr; clear hr
  have HE := Lib.hid hE; clear hE hown
  have hbi : (Try.prog.info? 38).map (·.size) = some c.length := by rw [hcl]; exact nodeSize
  have HBi := Lib.hid hbi; clear hbi
  have HN := Lib.hid hn; clear hn
  have hz87 := zero87
  have hk0 := icl_set0 0 2 (fun _ => false) 0 0
  have hkA := fun a' : Int => icl_setA 2 a' (fun _ => false) 0 0
  go_enter Try.func37, Try.ntmps37
  go_wp2_with fail
  clear hz87 hk0 hkA
  refine wp_slice1 84 87 259 _ (.tmp 126) rfl (icl 2 (fun _ => false) ((L.length : Int) + 1) 0).toArray rfl Try.underlying84 infoInst (by decide) (by decide) (icl_size _ _ _ _) ?_
  go_wp2_with fail
  refine wp_push (.tmp 123) (.tmp 127) rfl HE.out (by omega) _ _ _ _ ⟨1, .zero, L.length + 1, 0⟩ (by rw [rcl_fork]; rfl) rfl rfl ?_
  intro gg cap9 w9 hE9
  have HE9 := Lib.hid hE9; clear hE9
  have hc0 := blk_cell HE9.out.box 0
  have hc1 := blk_cell HE9.out.box 1
  have HR9 := Lib.hid (HE9.out.range hb HR.out)
  go_wp2_with fail
  refine wp_load_mid 38 (.tmp 132) rfl b 0 rfl c _ HR9.out Try.underlying38 rfl HBi.out ?_
  go_wp2_with fail
  (with_reducible refine (HN.out.run HE9.out HHc.out (by omega)).mono ?_)
  rintro q w2 ⟨a2, cap2, rfl, hE2⟩
  obtain ⟨g2, cap3, hv⟩ := hE2.form (by omega)
  obtain ⟨rfl, -, rfl⟩ : a2 = some ⟨g2, 0, none⟩ ∧ True ∧ cap2 = cap3 := by simpa using hv
  clear hv
  have hget : (L ++ [(⟨1, .zero, L.length + 1, 0⟩ : Inst)] ++ n'.re.code (L.length + 1))[L.length]? = some ⟨1, .zero, L.length + 1, 0⟩ := by simp
  have hd0 := blk_cell hE2.box 0
  have hcell := hE2.cell hget 258 (by decide)
  rw [rcl_b] at hcell
  have hfz := hE2.fz (L.length * 259 + 258)
  have hst := hE2.set hget (j := 258) (by decide) (.int .i64 ((L.length : Int) + 1 + (n'.re.len : Int))) ⟨1, .zero, L.length + 1, L.length + n'.re.len + 1⟩ (by rw [show (L.length : Int) + 1 + (n'.re.len : Int) = ((L.length + n'.re.len + 1 : Nat) : Int) by omega]; exact rcl_setB ⟨1, .zero, L.length + 1, 0⟩ _)
  have HSt := Lib.hid hst; clear hst hget hE2
  have hcl' : (L.length : Int) < (L.length : Int) + 1 + (n'.re.len : Int) := by omega
  clear hc0 hc1
  go_wp2_with fail
  go_ret
  refine ⟨_, rfl, ?_⟩
  refine HSt.out.done ?_
  rw [HEc.out]
  simp
set_option maxRecDepth 100000 in
set_option maxHeartbeats 8000000 in
theorem emit_star (n : T) (hn : EmitC n) (hnN : n.isN) : EmitC (.node 4 (.snoc .nil n)) := by
  intro W base v L cs hown hbase hH hlen
  obtain ⟨n', b, cap, c, hl, _, hcs, hb, hcl, hHc, hr⟩ := hH.only (one_isL hnN).1 rfl
  have : n' = n := by simpa using hl.symm
  subst this
  have hX := nodeX 4 (.slice (some ⟨b, 0, none⟩) 1 cap)
  have hcs' : cs = ncl 4 (.slice (some ⟨b, 0, none⟩) 1 cap) none256 := hcs
  rw [← hcs'] at hX
  clear hcs hcs' hl
  have hel : (T.node 4 (.snoc .nil n')).re.len = n'.re.len + 2 := by simp [T.re, T.last, Re.len]
  have hec : (T.node 4 (.snoc .nil n')).re.code L.length = ⟨1, .zero, L.length + 1, L.length + n'.re.len + 2⟩ :: (n'.re.code (L.length + 1) ++ [⟨2, .zero, L.length, 0⟩]) := by simp [T.re, T.last, Re.code]
  rw [hel] at hlen
  have HEc := Lib.hid hec; clear hec hel
  have hE := Emi.start (x := cs) hown hbase
  obtain ⟨ao, capv, rfl⟩ := own_any hown
  have hln := hX.len
  have hne := hX.ne
  have hg0 := hX.g0
  have hg1 := hX.g1
  have HX := Lib.hid hX; clear hX
  have HHc := Lib.hid hHc; clear hHc hH
  have HR := Lib.hid hr; clear hr
  have HE := Lib.hid hE; clear hE hown
  have hbi : (Try.prog.info? 38).map (·.size) = some c.length := by rw [hcl]; exact nodeSize
  have HBi := Lib.hid hbi; clear hbi
  have HN := Lib.hid hn; clear hn
  have hz87 := zero87
  have hk0 := icl_set0 0 2 (fun _ => false) 0 0
  have hkA := fun a' : Int => icl_setA 2 a' (fun _ => false) 0 0
  go_enter Try.func37, Try.ntmps37
  go_wp2_with fail
  clear hz87 hk0 hkA
  refine wp_slice1 84 87 259 _ (.tmp 126) rfl (icl 2 (fun _ => false) ((L.length : Int) + 1) 0).toArray rfl Try.underlying84 infoInst (by decide) (by decide) (icl_size _ _ _ _) ?_
  go_wp2_with fail
  refine wp_push (.tmp 123) (.tmp 127) rfl HE.out (by omega) _ _ _ _ ⟨1, .zero, L.length + 1, 0⟩ (by rw [rcl_fork]; rfl) rfl rfl ?_
  intro gg cap9 w9 hE9
  have HE9 := Lib.hid hE9; clear hE9
  have hc0 := blk_cell HE9.out.box 0
  have hc1 := blk_cell HE9.out.box 1
  have HR9 := Lib.hid (HE9.out.range hb HR.out)
  go_wp2_with fail
  refine wp_load_mid 38 (.tmp 132) rfl b 0 rfl c _ HR9.out Try.underlying38 rfl HBi.out ?_
  go_wp2_with fail
  (with_reducible refine (HN.out.run HE9.out HHc.out (by omega)).mono ?_)
  rintro q w2 ⟨a2, cap2, rfl, hE2⟩
  have hd0 := blk_cell hE2.box 0
  have HE2 := Lib.hid hE2; clear hE2
  clear hc0 hc1
  have hz87 := zero87
  have hj0 := icl_set0 0 3 (fun _ => false) 0 0
  have hjA := fun a' : Int => icl_setA 3 a' (fun _ => false) 0 0
  go_wp2_with fail
  clear hz87 hj0 hjA
  refine wp_slice1 84 87 259 _ (.tmp 140) rfl (icl 3 (fun _ => false) (L.length : Int) 0).toArray rfl Try.underlying84 infoInst (by decide) (by decide) (icl_size _ _ _ _) ?_
  go_wp2_with fail
  refine wp_push (.tmp 138) (.tmp 141) rfl HE2.out (by omega) _ _ _ _ ⟨2, .zero, L.length, 0⟩ (by rw [rcl_jump]) rfl rfl ?_
  intro g2 cap3 w3 hE3
  have hget : (L ++ [(⟨1, .zero, L.length + 1, 0⟩ : Inst)] ++ n'.re.code (L.length + 1) ++ [(⟨2, .zero, L.length, 0⟩ : Inst)])[L.length]? = some ⟨1, .zero, L.length + 1, 0⟩ := by simp
  have hcell := hE3.cell hget 258 (by decide)
  rw [rcl_b] at hcell
  have hfz := hE3.fz (L.length * 259 + 258)
  have hst := hE3.set hget (j := 258) (by decide) (.int .i64 ((L.length : Int) + 1 + (n'.re.len : Int) + 1)) ⟨1, .zero, L.length + 1, L.length + n'.re.len + 2⟩ (by rw [show (L.length : Int) + 1 + (n'.re.len : Int) + 1 = ((L.length + n'.re.len + 2 : Nat) : Int) by omega]; exact rcl_setB ⟨1, .zero, L.length + 1, 0⟩ _)
  have HSt := Lib.hid hst; clear hst hget hE3
  have hcl' : (L.length : Int) < (L.length : Int) + 1 + (n'.re.len : Int) + 1 := by omega
  clear hd0
  go_wp2_with fail
  go_ret
  refine ⟨_, rfl, ?_⟩
  rw [← List.length_append]
  refine HSt.out.done ?_
  rw [HEc.out]
  simp
end Go.Proofs.Ytokcffkffcfolaa.Rh
