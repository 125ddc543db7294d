/-
  Trees of queries in plain Lean: how many nodes they have, how deep they are; how they lie in memory.
-/
import Derived.Test.YtjddnchenhnemaaGreatDoorRwA
namespace Go.Proofs.YtjddnchenhnemaaGreatDoor.Pm
open Go Go.RowKit Go.Proofs.YtjddnchenhnemaaGreatDoor.Rg Go.Proofs.YtjddnchenhnemaaGreatDoor.Ma Go.Proofs.YtjddnchenhnemaaGreatDoor.Ir

structure Xf where
  kind : Int := 0
  at_ : Int := 0
  num : Nat := 0
  name : ByteArray := ⟨#[]⟩
  m : List Mr := []
  range : Int := 0
  step : Int := 0
  offset : Int := 0
  op : Int := 0
  flag : Bool := false
  xhow : Int := 0
  xn : List ByteArray := []
  card : Int := 0
  incl : List ByteArray := []
  ghow : Int := 0
  gn : List ByteArray := []
mutual
inductive Xn where
  | mk (f : Xf) (l : Xk)
inductive Xk where
  | nil
  | snoc (l : Xk) (n : Xn)
end
def Xk.len : Xk → Nat
  | .nil => 0
  | .snoc l _ => l.len + 1
def Xk.kids : Xk → List Xn
  | .nil => []
  | .snoc l n => l.kids ++ [n]
def Xk.pre : Xk → Nat → Xk
  | .nil, _ => .nil
  | .snoc l n, k => if k ≤ l.len then l.pre k else .snoc l n
theorem Xk.kids_length : ∀ l : Xk, l.kids.length = l.len
  | .nil => rfl
  | .snoc l n => by rw [Xk.kids, List.length_append, l.kids_length]; rfl
theorem Xk.pre_zero : ∀ l : Xk, l.pre 0 = .nil
  | .nil => rfl
  | .snoc l n => by rw [Xk.pre, if_pos (Nat.zero_le _), l.pre_zero]
theorem Xk.pre_len : ∀ l : Xk, l.pre l.len = l
  | .nil => rfl
  | .snoc l n => by rw [Xk.pre, if_neg (by simp [Xk.len])]
theorem Xk.pre_ge : ∀ (l : Xk) (k : Nat), l.len ≤ k → l.pre k = l
  | .nil, _, _ => rfl
  | .snoc l n, k, h => by rw [Xk.pre, if_neg (by simp [Xk.len] at h; omega)]
theorem Xk.pre_succ : ∀ (l : Xk) (k : Nat) (n : Xn), l.kids[k]? = some n → l.pre (k + 1) = .snoc (l.pre k) n
  | .nil, k, n, h => by simp [Xk.kids] at h
  | .snoc l m, k, n, h => by
    have hl := l.kids_length
    have hlt := (List.getElem?_eq_some_iff.1 h).1
    rw [Xk.kids, List.length_append] at hlt
    simp at hlt
    rw [Xk.kids] at h
    by_cases hk : k < l.kids.length
    · rw [List.getElem?_append_left hk] at h
      rw [Xk.pre, Xk.pre, if_pos (by omega), if_pos (by omega)]
      exact Xk.pre_succ l k n h
    · have : k = l.len := by omega
      subst this
      rw [List.getElem?_append_right (by omega), hl, Nat.sub_self] at h
      simp at h
      subst h
      rw [Xk.pre, Xk.pre, if_neg (by omega), if_pos (Nat.le_refl _), Xk.pre_len]
theorem Xk.kid_of (l : Xk) {k : Nat} (h : k < l.len) : ∃ n, l.kids[k]? = some n := ⟨_, List.getElem?_eq_getElem (by rw [l.kids_length]; exact h)⟩
mutual
/-- How many nodes. -/
def Xn.tot : Xn → Nat
  | .mk _ l => 1 + l.tot
def Xk.tot : Xk → Nat
  | .nil => 0
  | .snoc l n => l.tot + n.tot
end
mutual
/-- How deep. -/
def Xn.dep : Xn → Nat
  | .mk _ l => 1 + l.dep
def Xk.dep : Xk → Nat
  | .nil => 0
  | .snoc l n => max l.dep n.dep
end
theorem Xk.tot_kid : ∀ {l : Xk} {k : Nat} {n : Xn}, l.kids[k]? = some n → n.tot ≤ l.tot
  | .nil, k, n, h => by simp [Xk.kids] at h
  | .snoc l m, k, n, h => by
    rw [Xk.kids] at h
    rw [Xk.tot]
    by_cases hk : k < l.kids.length
    · rw [List.getElem?_append_left hk] at h
      have := Xk.tot_kid h
      omega
    · rw [List.getElem?_append_right (by omega)] at h
      have hm := List.mem_of_getElem? h
      simp at hm
      subst hm
      omega
theorem Xk.tot_pre : ∀ (l : Xk) (k : Nat), (l.pre k).tot ≤ l.tot
  | .nil, _ => Nat.le_refl _
  | .snoc l n, k => by
    rw [Xk.pre]
    split
    · have := l.tot_pre k
      rw [Xk.tot]; omega
    · exact Nat.le_refl _
theorem Xk.dep_pre : ∀ (l : Xk) (k : Nat), (l.pre k).dep ≤ l.dep
  | .nil, _ => Nat.le_refl _
  | .snoc l n, k => by
    rw [Xk.pre]
    split
    · have := l.dep_pre k
      rw [Xk.dep]; omega
    · exact Nat.le_refl _
theorem Xn.tot_pos : ∀ n : Xn, 0 < n.tot
  | .mk f l => by rw [Xn.tot]; omega
theorem Xk.len_tot : ∀ l : Xk, l.len ≤ l.tot
  | .nil => Nat.le_refl _
  | .snoc l n => by
    have := l.len_tot
    have := n.tot_pos
    rw [Xk.len, Xk.tot]; omega

mutual
theorem Xn.dep_tot : ∀ n : Xn, n.dep ≤ n.tot
  | .mk f l => by rw [Xn.dep, Xn.tot]; have := Xk.dep_tot l; omega
theorem Xk.dep_tot : ∀ l : Xk, l.dep ≤ l.tot
  | .nil => Nat.le_refl _
  | .snoc l n => by rw [Xk.dep, Xk.tot]; have := Xk.dep_tot l; have := Xn.dep_tot n; omega
end
/-! In memory -/
/-- A node's cells. -/
abbrev xcl (f : Xf) (vM vX vI vG vK : Value) : List Value :=
  [.int .i64 f.kind, .int .i64 f.at_, .float .f64 f.num, .string f.name, vM, .int .i64 f.range, .int .i64 f.step, .int .i64 f.offset, .int .i64 f.op, .bool f.flag, .int .i64 f.xhow, vX, .int .i64 f.card, vI, .int .i64 f.ghow, vG, vK]
structure Xfs (W : World) (F : Nat → Prop) (f : Xf) (vM vX vI vG : Value) : Prop where
  m : Row W F vM f.m.length 3 (mcells f.m)
  x : Row W F vX f.xn.length 1 (scells f.xn)
  i : Row W F vI f.incl.length 1 (scells f.incl)
  g : Row W F vG f.gn.length 1 (scells f.gn)
mutual
def Xn.Held (W : World) (F : Nat → Prop) : Xn → List Value → Prop
  | .mk f l, cs => ∃ vM vX vI vG vK ls, cs = xcl f vM vX vI vG vK ∧ Xfs W F f vM vX vI vG ∧ l.Held W F ls ∧ Row W F vK l.len 17 ls
def Xk.Held (W : World) (F : Nat → Prop) : Xk → List Value → Prop
  | .nil, cs => cs = []
  | .snoc l n, cs => ∃ a b, cs = a ++ b ∧ b.length = 17 ∧ l.Held W F a ∧ n.Held W F b
end
theorem Xfs.keep {W W1 : World} {F F1 : Nat → Prop} {f : Xf} {vM vX vI vG : Value} (h : Xfs W F f vM vX vI vG) (hk : Keeps W W1 F F1) : Xfs W1 F1 f vM vX vI vG :=
  ⟨h.m.keep (by decide) hk, h.x.keep (by decide) hk, h.i.keep (by decide) hk, h.g.keep (by decide) hk⟩
mutual
theorem Xn.Held.keep {W W1 : World} {F F1 : Nat → Prop} (hk : Keeps W W1 F F1) : ∀ (n : Xn) {cs : List Value}, n.Held W F cs → n.Held W1 F1 cs
  | .mk f l, cs, h => by
    rw [Xn.Held] at h ⊢
    obtain ⟨vM, vX, vI, vG, vK, ls, hc, hf, hl, hK⟩ := h
    exact ⟨vM, vX, vI, vG, vK, ls, hc, hf.keep hk, Xk.Held.keep hk l hl, hK.keep (by decide) hk⟩
theorem Xk.Held.keep {W W1 : World} {F F1 : Nat → Prop} (hk : Keeps W W1 F F1) : ∀ (l : Xk) {cs : List Value}, l.Held W F cs → l.Held W1 F1 cs
  | .nil, cs, h => by rw [Xk.Held] at h ⊢; exact h
  | .snoc l n, cs, h => by
    rw [Xk.Held] at h ⊢
    obtain ⟨a, b, hc, hb, h1, h2⟩ := h
    exact ⟨a, b, hc, hb, Xk.Held.keep hk l h1, Xn.Held.keep hk n h2⟩
end
theorem Xn.Held.below {W W1 : World} {n : Xn} {cs : List Value} (h : n.Held W Any cs) (hb : Below W.heap.size W W1) : n.Held W1 Any cs := Xn.Held.keep (Keeps.below hb) n h
theorem Xn.Held.any {W : World} {F : Nat → Prop} {n : Xn} {cs : List Value} (h : n.Held W F cs) : n.Held W Any cs := Xn.Held.keep (fun _ _ _ => ⟨rfl, trivial⟩) n h
theorem Xn.Held.length {W : World} {F : Nat → Prop} {n : Xn} {cs : List Value} (h : n.Held W F cs) : cs.length = 17 := by
  obtain ⟨f, l⟩ := n
  rw [Xn.Held] at h
  obtain ⟨_, _, _, _, _, _, rfl, _⟩ := h
  rfl
/-- One kid of a row. -/
theorem Xk.Held.kid {W : World} {F : Nat → Prop} : ∀ {l : Xk} {ls : List Value}, l.Held W F ls → ls.length = l.len * 17 ∧ ∀ (i : Nat) (n : Xn), l.kids[i]? = some n → ∃ c : List Value, c.length = 17 ∧ n.Held W F c ∧ ∀ j, j < 17 → ls[i * 17 + j]? = c[j]?
  | .nil, ls, h => by
    rw [Xk.Held] at h
    subst h
    exact ⟨rfl, fun i n hi => by simp [Xk.kids] at hi⟩
  | .snoc l m, ls, h => by
    rw [Xk.Held] at h
    obtain ⟨a, b, hc, hb, h1, h2⟩ := h
    obtain ⟨e1, e2⟩ := Xk.Held.kid h1
    subst hc
    refine ⟨by rw [List.length_append, e1, hb]; show _ = (l.len + 1) * 17; omega, fun i n hi => ?_⟩
    have hkl := l.kids_length
    rw [Xk.kids] at hi
    by_cases hlt : i < l.kids.length
    · rw [List.getElem?_append_left hlt] at hi
      obtain ⟨c, h3, h4, h5⟩ := e2 i n hi
      refine ⟨c, h3, h4, fun j hj => ?_⟩
      rw [List.getElem?_append_left (by rw [e1]; rw [hkl] at hlt; omega)]
      exact h5 j hj
    · rw [List.getElem?_append_right (by omega)] at hi
      have hi0 : i = l.len := by
        have := (List.getElem?_eq_some_iff.1 hi).1
        simp at this; omega
      subst hi0
      rw [hkl, Nat.sub_self] at hi
      simp at hi
      subst hi
      refine ⟨b, hb, h2, fun j hj => ?_⟩
      rw [List.getElem?_append_right (by omega), e1]
      congr 1; omega
theorem Xn.Held.one {W : World} {F : Nat → Prop} {n : Xn} {c : List Value} (h : n.Held W F c) : ∀ u ∈ c, u.oneCell' = true := by
  obtain ⟨f, l⟩ := n
  rw [Xn.Held] at h
  obtain ⟨vM, vX, vI, vG, vK, _, rfl, hf, _, hK⟩ := h
  intro u hu
  simp only [List.mem_cons, List.not_mem_nil, or_false] at hu
  rcases hu with rfl | rfl | rfl | rfl | rfl | rfl | rfl | rfl | rfl | rfl | rfl | rfl | rfl | rfl | rfl | rfl | rfl
  all_goals first | rfl | exact row_one hf.m | exact row_one hf.g | exact row_one hf.x | exact row_one hf.i | exact row_one hK
/-- A node's kids: where they lie, and each of them. -/
theorem Xn.Held.open {W : World} {F : Nat → Prop} {f : Xf} {l : Xk} {cs : List Value} (h : (Xn.mk f l).Held W F cs) :
    ∃ vM vX vI vG ao cap ls, cs = xcl f vM vX vI vG (.slice ao l.len cap) ∧ Xfs W F f vM vX vI vG ∧ l.Held W F ls ∧ Row W F (.slice ao l.len cap) l.len 17 ls := by
  rw [Xn.Held] at h
  obtain ⟨vM, vX, vI, vG, vK, ls, hc, hf, hl, hK⟩ := h
  have hK' := hK
  obtain ⟨_, ao, cap, rfl, _⟩ := hK'
  exact ⟨vM, vX, vI, vG, ao, cap, ls, hc, hf, hl, hK⟩
theorem xkid_at {W : World} {F : Nat → Prop} {l : Xk} {ls : List Value} {ao : Option Addr} {cap : Nat} (hl : l.Held W F ls) (hK : Row W F (.slice ao l.len cap) l.len 17 ls) {k : Nat} (hk : k < l.len) :
    ∃ b o, ao = some ⟨b, o, none⟩ ∧ ∃ n c, l.kids[k]? = some n ∧ W.rangeAt b (o + k * 17) c ∧ n.Held W F c := by
  obtain ⟨hlen, ao', cap', hv, hc⟩ := hK
  simp only [Value.slice.injEq, true_and] at hv
  obtain ⟨rfl, rfl⟩ := hv
  obtain ⟨b, o, hF, ha, hr⟩ := hc (by omega)
  obtain ⟨n, hn⟩ := l.kid_of hk
  obtain ⟨_, e2⟩ := hl.kid
  obtain ⟨c, h1, h2, h3⟩ := e2 k _ hn
  refine ⟨b, o, ha, n, c, hn, fun j v hv => ?_, h2⟩
  have hj : j < 17 := by
    have := (List.getElem?_eq_some_iff.1 hv).1
    omega
  rw [Nat.add_assoc]
  exact hr _ _ ((h3 j hj).trans hv)
/-- A node's zero. -/
def xz : List Value := [.int .i64 0, .int .i64 0, .float .f64 0, .string ⟨#[]⟩, .slice none 0 0, .int .i64 0, .int .i64 0, .int .i64 0, .int .i64 0, .bool false, .int .i64 0, .slice none 0 0, .int .i64 0, .slice none 0 0, .int .i64 0, .slice none 0 0, .slice none 0 0]
theorem infoX : (Tryz.prog.info? 42).map (fun i => (i.zero, i.size)) = some (some (.agg xz.toArray), 17) := by kernel_rfl
theorem sizeX : (Tryz.prog.info? 42).map (·.size) = some 17 := by kernel_rfl
theorem zeroX (w : World) : (zeroValue 42).run Tryz.prog w = .ok (.agg xz.toArray) w := (zero_of_info infoX).1 w
theorem loadX {W : World} {b o : Nat} {c : List Value} (h : W.rangeAt b o c) (hl : c.length = 17) : (Instr.loadAt 42 (.pointer (some ⟨b, o, none⟩))).run Tryz.prog W = .ok (.agg c.toArray) W :=
  run_loadAt_mid W b o 42 c _ h Tryz.underlying42 rfl (by rw [sizeX, hl])
theorem xbox_cell {W : World} {c : List Value} (j : Nat) {u : Value} (h : c[j]? = some u) : (W.alloc (.cells c.toArray 42)).cell? ⟨W.heap.size, j, none⟩ = some u := by
  rw [blk_cell (blk_new W _)]; simpa using h
/-- A node is read. -/
theorem wpList_loadX {ops : Array Oper} {rest : List Oper} {op : Oper} {a : Act} {w : World} {Q : Exit → Act → World → Prop} (hgd : op.guard = none) (x : Operand) (ho : op.op = .load 42 x)
    (b o : Nat) (hx : a.eval x = .pointer (some ⟨b, o, none⟩)) (c : List Value) (hc : w.rangeAt b o c) (hl : c.length = 17)
    (h : wpList Tryz.prog ops Q rest (a.put op.dst (.agg c.toArray)) w) : wpList Tryz.prog ops Q (op :: rest) a w :=
  wpList_load_mid hgd 42 x ho b o hx c _ hc Tryz.underlying42 rfl (by rw [sizeX, hl]) h
theorem wpList_loadXW {ops : Array Oper} {rest : List Oper} {op : Oper} {a : Act} {w : World} {Q : Exit → Act → World → Prop} (x : Operand) (ho : op.op = .load 42 x)
    (b o : Nat) (hx : a.eval x = .pointer (some ⟨b, o, none⟩)) (c : List Value) (hc : w.rangeAt b o c) (hl : c.length = 17) (hw : Region.wanted op (yielded ops a.tmps) = true)
    (h : wpList Tryz.prog ops Q rest (a.put op.dst (.agg c.toArray)) w) : wpList Tryz.prog ops Q (op :: rest) a w :=
  wpList_step fun K hK => by
    rw [if_pos hw]
    exact wp_load_mid 42 x ho b o hx c _ hc Tryz.underlying42 rfl (by rw [sizeX, hl]) (hK _ _ h)
/-- A new variable is laid, and a node into it. -/
theorem wpList_newX {ops : Array Oper} {rest : List Oper} {o1 o2 : Oper} {a : Act} {w : World} {Q : Exit → Act → World → Prop} (hg1 : o1.guard = none) (hg2 : o2.guard = none) (d : Nat) (y : Operand)
    (h1 : o1.op = .alloc 42) (hd1 : o1.dst = some d) (h2 : o2.op = .store 42 (.tmp d) y) (hd2 : o2.dst = none) (c : List Value)
    (hx : (a.put (some d) (.pointer (some ⟨w.heap.size, 0, none⟩))).eval (.tmp d) = .pointer (some ⟨w.heap.size, 0, none⟩)) (hy : (a.put (some d) (.pointer (some ⟨w.heap.size, 0, none⟩))).eval y = .agg c.toArray) (hl : c.length = 17) (hone : ∀ u ∈ c, u.oneCell' = true)
    (h : wpList Tryz.prog ops Q rest (a.put (some d) (.pointer (some ⟨w.heap.size, 0, none⟩))) (w.alloc (.cells c.toArray 42))) : wpList Tryz.prog ops Q (o1 :: o2 :: rest) a w := by
  refine Great.wpList_runTo hg1 (some d) hd1 (.pointer (some ⟨w.heap.size, 0, none⟩)) (w.alloc (.cells xz.toArray 42)) ?_ ?_
  · unfold execOp
    have hz := zeroX w
    simp [h1, Instr.alloc, Sem.run_bind, hz]
    rfl
  refine wpList_plain hg2 fun K hK => ?_
  have hK2 := hK _ _ h
  unfold Oper.wp execOp
  simp only [h2, hx, hy, Instr.storeAt, Instr.sureAddr, Sem.run_bind, Sem.run_pure, Result.andThen_ok, run_storeVar_new (P := Tryz.prog) w 42 xz.toArray c.toArray (by rw [sizeX]; simp [hl]) (by simp [hl, xz]) (all_oneCell_toArray hone)]
  show K ((a.put (some d) (.pointer (some ⟨w.heap.size, 0, none⟩))).put o2.dst undef) _
  rw [hd2]
  exact hK2
/-- A whole node into a variable that holds one. -/
theorem wpList_setX {ops : Array Oper} {rest : List Oper} {op : Oper} {a : Act} {w : World} {Q : Exit → Act → World → Prop} (hgd : op.guard = none) (x y : Operand) (ho : op.op = .store 42 x y)
    (b : Nat) (old c : List Value) (hb : w.heap[b]? = some (.cells old.toArray 42 (0, 0))) (hol : old.length = 17) (hx : a.eval x = .pointer (some ⟨b, 0, none⟩)) (hy : a.eval y = .agg c.toArray) (hl : c.length = 17) (hone : ∀ u ∈ c, u.oneCell' = true)
    (h : wpList Tryz.prog ops Q rest (a.put op.dst undef) (w.setRow b c.toArray)) : wpList Tryz.prog ops Q (op :: rest) a w :=
  wpList_plain hgd fun _ hK => by
    unfold Oper.wp execOp
    simp only [ho, hx, hy, Instr.storeAt, Instr.sureAddr, Sem.run_bind, Sem.run_pure, Result.andThen_ok, run_storeVar_row w b 42 42 old.toArray c.toArray hb (by rw [sizeX]; simp [hl]) (by simp [hl, hol]) (all_oneCell_toArray hone)]
    exact hK _ _ h
end Go.Proofs.YtjddnchenhnemaaGreatDoor.Pm
