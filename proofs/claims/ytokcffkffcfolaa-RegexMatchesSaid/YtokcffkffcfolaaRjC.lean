/-
  The document's emit: what is repeated one or more times.
-/
import Derived.Test.YtokcffkffcfolaaRjB
namespace Go.Proofs.Ytokcffkffcfolaa.Rh
open Go Go.RowKit Go.Proofs.Ytokcffkffcfolaa.Rg

/-- A node's cells as letters: what of them is read. -/
structure NodeX (x : List Value) (k : Int) (v : Value) : Prop where
  eq : x = ncl k v none256
  len : x.length = 258
  ne : (x = []) = False
  g0 : ∀ h : 0 < x.length, x[0]'h = .int .i64 k
  g1 : ∀ h : 1 < x.length, x[1]'h = v
theorem nodeX (k : Int) (v : Value) : NodeX (ncl k v none256) k v := ⟨rfl, ncl_length _ _ _, ncl_ne _ _ _, fun _ => rfl, fun _ => rfl⟩
/-- The one kid of a node that repeats. -/
theorem Held.only {W : World} {base k : Nat} {l : T} {cs : List Value} (h : Held W (fun b => b < base) (.node k l) cs) (hL : l.isL) (h1 : l.len = 1) :
    ∃ (n : T) (b cap : Nat) (c : List Value), l = .snoc .nil n ∧ n.isN ∧ cs = ncl k (.slice (some ⟨b, 0, none⟩) 1 cap) none256 ∧ b < base ∧ c.length = 258 ∧ Held W (fun b => b < base) n c ∧ W.rangeAt b 0 c := by
  cases l with
  | snoc l n =>
    cases l with
    | nil =>
      obtain ⟨v, ls, hc, ⟨a, c, h2, h3, h4, h5, h6⟩, hK⟩ := h
      rw [T.isL] at hL
      have ha : a = [] := h5
      subst ha
      rcases hK with ⟨hz, _⟩ | ⟨_, _, b, cap, hb, rfl, hr⟩
      · simp [T.len] at hz
      · refine ⟨n, b, cap, c, rfl, hL.2, hc, hb, h4, h6, ?_⟩
        rw [h2] at hr; simpa using hr
    | snoc l m => simp [T.len] at h1
    | set S => rw [T.isL, T.isL] at hL; exact hL.1.elim
    | node k l => rw [T.isL, T.isL] at hL; exact hL.1.elim
  | nil => simp [T.len] at h1
  | set S => rw [T.isL] at hL; exact hL.elim
  | node k l => rw [T.isL] at hL; exact hL.elim

theorem rcl_fork (a b : Nat) : rcl ⟨1, .zero, a, b⟩ = icl 2 (fun _ => false) a b := by rw [rcl_icl, zero_has]; rfl
theorem rcl_jump (a : Nat) : rcl ⟨2, .zero, a, 0⟩ = icl 3 (fun _ => false) a 0 := by rw [rcl_icl, zero_has]; rfl

set_option maxRecDepth 100000 in
set_option maxHeartbeats 8000000 in
theorem emit_plus (n : T) (hn : EmitC n) (hnN : n.isN) : EmitC (.node 5 (.snoc .nil n)) := by
  intro W base v L cs hown hbase hH hlen
  obtain ⟨n', b, cap, c, hl, _, hcs, hb, hcl, hHc, hr⟩ := hH.only (one_isL hnN).1 rfl
  have : n' = n := by simpa using hl.symm
  subst this
  have hX := nodeX 5 (.slice (some ⟨b, 0, none⟩) 1 cap)
  have hcs' : cs = ncl 5 (.slice (some ⟨b, 0, none⟩) 1 cap) none256 := hcs
  rw [← hcs'] at hX
  clear hcs hcs' hl
  have hel : (T.node 5 (.snoc .nil n')).re.len = n'.re.len + 1 := by simp [T.re, T.last, Re.len]
  have hec : (T.node 5 (.snoc .nil n')).re.code L.length = n'.re.code L.length ++ [⟨1, .zero, L.length, L.length + n'.re.len + 1⟩] := by simp [T.re, T.last, Re.code]
  rw [hel] at hlen
  have HEc := Lib.hid hec; clear hec hel
  obtain ⟨ao, capv, rfl⟩ := own_any hown
  obtain ⟨i0, hi0, hz0, hz1, hz2⟩ := info_parts infoInst3
  have hln := hX.len
  have hne := hX.ne
  have hg0 := hX.g0
  have hg1 := hX.g1
  have HX := Lib.hid hX; clear hX
  have hbl : b < W.heap.size := by omega
  have hr1 : (W.alloc (.cells cs.toArray 38)).rangeAt b 0 c := World.rangeAt_alloc hr _
  have hH1 : Held (W.alloc (.cells cs.toArray 38)) (fun b => b < base) n' c := hHc.keep fun b _ hlt => ⟨Below.heap_alloc _ _ _ hlt, by assumption⟩
  have HR1 := Lib.hid hr1; clear hr1 hr
  have HH1 := Lib.hid hH1; clear hH1 hHc hH
  have HOwn := Lib.hid (hown.alloc (.cells cs.toArray 38)); clear hown
  have hbi : (Try.prog.info? 38).map (·.size) = some c.length := by rw [hcl]; exact nodeSize
  have HBi := Lib.hid hbi; clear hbi
  have HN := Lib.hid hn; clear hn
  go_enter Try.func37, Try.ntmps37
  go_wp2_with fail
  refine wp_load_mid 38 (.tmp 112) rfl b 0 rfl c _ HR1.out Try.underlying38 rfl HBi.out ?_
  go_wp2_with fail
  refine (HN.out _ base _ L c HOwn.out (by simp; omega) HH1.out (by omega)).mono ?_
  rintro q w2 ⟨v2, rfl, hown2, hb2⟩
  have hl2 : (L ++ n'.re.code L.length).length = L.length + n'.re.len := by rw [List.length_append, Re.code_length]
  rw [hl2] at hown2
  obtain ⟨ao2, cap2, rfl⟩ := own_any hown2
  have hbel2 := ((Gro.refl W (.slice ao L.length capv)).alloc (.cells cs.toArray 38)).trans hb2
  have hbs2 := hbel2.grown.size
  have HOwn2 := Lib.hid hown2; clear hown2 HOwn hl2 hb2
  have HB2 := Lib.hid hbel2; clear hbel2
  clear HX hg0 hg1 hne HH1 HR1 HN
  have hz87 := zero87
  have hk0 := icl_set0 0 2 (fun _ => false) 0 0
  have hkA := icl_setA 2 L.length (fun _ => false) 0 0
  have hkB := fun b' : Int => icl_setB 2 b' (fun _ => false) L.length 0
  go_wp2_with fail
  clear hz87 hk0 hkA hkB
  refine wp_slice1 84 87 259 _ (.tmp 120) rfl (icl 2 (fun _ => false) (L.length : Int) ((L.length : Int) + (n'.re.len : Int) + 1)).toArray rfl Try.underlying84 infoInst (by decide) (by decide) (icl_size _ _ _ _) ?_
  go_wp2_with fail
  refine wp_append_lies _ (.tmp 115) (.tmp 121) 84 rfl base 87 i0 (.agg (icl 0 (fun _ => false) 0 0).toArray) 259 280 Try.underlying84 hi0 hz0 hz1 hz2 (by simp [Value.cells, icl_length]) (by decide) (.slice ao2 (L.length + n'.re.len) cap2) (L.length + n'.re.len) (rflat (L ++ n'.re.code L.length)) rfl (HOwn2.out.alloc _) ⟨(w2).heap.size, 0, none⟩ 1 1 (icl 2 (fun _ => false) (L.length : Int) ((L.length : Int) + (n'.re.len : Int) + 1)) rfl (by rw [icl_length]) (World.news_of_block (cs := (icl 2 (fun _ => false) (L.length : Int) ((L.length : Int) + (n'.re.len : Int) + 1)).toArray) (t := 87) (fr := (0, 0)) (blk_new _ _)) (icl_one _ _ _ _) (by decide) (by unfold maxLen; omega) (by omega) (by simp; omega) ((w2).heap.size + 1) (by simp) ?_
  intro gg cap9 w9 hown9 hgrow9 hat9 hlt9
  have hb9 := (HB2.out.alloc (.cells (icl 2 (fun _ => false) (L.length : Int) ((L.length : Int) + (n'.re.len : Int) + 1)).toArray 87)).app (n := (L.length + n'.re.len) + 1) (cap := cap9) hgrow9 hat9 (by omega)
  have HAp := Lib.hid (And.intro hown9 hb9); clear hown9 hgrow9 hat9 hlt9 hb9
  go_wp2_with fail
  go_ret
  refine ⟨_, rfl, ?_, HAp.out.2⟩
  rw [HEc.out]
  have e1 : (L ++ (n'.re.code L.length ++ [(⟨1, .zero, L.length, L.length + n'.re.len + 1⟩ : Inst)])).length = L.length + n'.re.len + 1 := by simp [Re.code_length]; omega
  have e2 : rflat (L ++ (n'.re.code L.length ++ [(⟨1, .zero, L.length, L.length + n'.re.len + 1⟩ : Inst)])) = rflat (L ++ n'.re.code L.length) ++ icl 2 (fun _ => false) (L.length : Int) ((L.length : Int) + (n'.re.len : Int) + 1) := by
    rw [← List.append_assoc, rflat_append, rflat_one, rcl_fork]; rfl
  rw [e1, e2]
  exact HAp.out.1
end Go.Proofs.Ytokcffkffcfolaa.Rh
