/-
  Plans in plain Lean: trees of nodes, how many nodes they have, how deep they are, how many points their Subs ask for; and how they lie in memory.
-/
import Derived.Test.YtnbgigdloehbjaaGreatDoorMbR
import Derived.Deep.MidRow
import Derived.Deep.WholeRow
import Derived.Great.Walk
namespace Go.Proofs.YtnbgigdloehbjaaGreatDoor.Ir
open Go Go.RowKit Go.Proofs.YtnbgigdloehbjaaGreatDoor.Rg Go.Proofs.YtnbgigdloehbjaaGreatDoor.Ma

structure Fd where
  kind : Int
  num : Nat
  fn : Int
  m : List Mr
  range : Int
  step : Int
  offset : Int
  ghow : Int
  gn : List ByteArray
  xhow : Int
  xn : List ByteArray
  card : Int
  incl : List ByteArray
  flag : Bool
  name : ByteArray
  value : ByteArray
mutual
inductive Nd where
  | mk (f : Fd) (l : Kd)
inductive Kd where
  | nil
  | snoc (l : Kd) (n : Nd)
end
def Kd.len : Kd → Nat
  | .nil => 0
  | .snoc l _ => l.len + 1
def Kd.kids : Kd → List Nd
  | .nil => []
  | .snoc l n => l.kids ++ [n]
def Kd.pre : Kd → Nat → Kd
  | .nil, _ => .nil
  | .snoc l n, k => if k ≤ l.len then l.pre k else .snoc l n
theorem Kd.kids_length : ∀ l : Kd, l.kids.length = l.len
  | .nil => rfl
  | .snoc l n => by rw [Kd.kids, List.length_append, l.kids_length]; rfl
theorem Kd.pre_zero : ∀ l : Kd, l.pre 0 = .nil
  | .nil => rfl
  | .snoc l n => by rw [Kd.pre, if_pos (Nat.zero_le _), l.pre_zero]
theorem Kd.pre_len : ∀ l : Kd, l.pre l.len = l
  | .nil => rfl
  | .snoc l n => by rw [Kd.pre, if_neg (by simp [Kd.len])]
theorem Kd.pre_ge : ∀ (l : Kd) (k : Nat), l.len ≤ k → l.pre k = l
  | .nil, _, _ => rfl
  | .snoc l n, k, h => by rw [Kd.pre, if_neg (by simp [Kd.len] at h; omega)]
theorem Kd.pre_succ : ∀ (l : Kd) (k : Nat) (n : Nd), l.kids[k]? = some n → l.pre (k + 1) = .snoc (l.pre k) n
  | .nil, k, n, h => by simp [Kd.kids] at h
  | .snoc l m, k, n, h => by
    have hl := l.kids_length
    have hlt := (List.getElem?_eq_some_iff.1 h).1
    rw [Kd.kids, List.length_append] at hlt
    simp at hlt
    rw [Kd.kids] at h
    by_cases hk : k < l.kids.length
    · rw [List.getElem?_append_left hk] at h
      rw [Kd.pre, Kd.pre, if_pos (by omega), if_pos (by omega)]
      exact Kd.pre_succ l k n h
    · have : k = l.len := by omega
      subst this
      rw [List.getElem?_append_right (by omega), hl, Nat.sub_self] at h
      simp at h
      subst h
      rw [Kd.pre, Kd.pre, if_neg (by omega), if_pos (Nat.le_refl _), Kd.pre_len]
theorem Kd.kid_of (l : Kd) {k : Nat} (h : k < l.len) : ∃ n, l.kids[k]? = some n := ⟨_, List.getElem?_eq_getElem (by rw [l.kids_length]; exact h)⟩

mutual
/-- How many nodes. -/
def Nd.tot : Nd → Nat
  | .mk _ l => 1 + l.tot
def Kd.tot : Kd → Nat
  | .nil => 0
  | .snoc l n => l.tot + n.tot
end
mutual
/-- How deep. -/
def Nd.dep : Nd → Nat
  | .mk _ l => 1 + l.dep
def Kd.dep : Kd → Nat
  | .nil => 0
  | .snoc l n => max l.dep n.dep
end
def inB (v lo hi : Int) : Bool := decide (lo ≤ v) && decide (v ≤ hi)
abbrev maxT : Int := 1125899906842624
/-- How many points a node asks for. -/
def Fd.own (f : Fd) : Nat := if f.kind = 5 ∧ inB f.range 1 maxT = true ∧ inB f.step 1 maxT = true then (f.range / f.step).toNat + 1 else 1
mutual
/-- The greatest product of Subs' points along a way. -/
def Nd.prod : Nd → Nat
  | .mk f l => f.own * l.prod
def Kd.prod : Kd → Nat
  | .nil => 1
  | .snoc l n => max l.prod n.prod
end
theorem Kd.tot_kid : ∀ {l : Kd} {k : Nat} {n : Nd}, l.kids[k]? = some n → n.tot ≤ l.tot
  | .nil, k, n, h => by simp [Kd.kids] at h
  | .snoc l m, k, n, h => by
    rw [Kd.kids] at h
    rw [Kd.tot]
    by_cases hk : k < l.kids.length
    · rw [List.getElem?_append_left hk] at h
      have := Kd.tot_kid h
      omega
    · rw [List.getElem?_append_right (by omega)] at h
      have hm := List.mem_of_getElem? h
      simp at hm
      subst hm
      omega
theorem Kd.tot_pre : ∀ (l : Kd) (k : Nat), (l.pre k).tot ≤ l.tot
  | .nil, _ => Nat.le_refl _
  | .snoc l n, k => by
    rw [Kd.pre]
    split
    · have := l.tot_pre k
      rw [Kd.tot]; omega
    · exact Nat.le_refl _
theorem Kd.dep_pre : ∀ (l : Kd) (k : Nat), (l.pre k).dep ≤ l.dep
  | .nil, _ => Nat.le_refl _
  | .snoc l n, k => by
    rw [Kd.pre]
    split
    · have := l.dep_pre k
      rw [Kd.dep]; omega
    · exact Nat.le_refl _
theorem Kd.prod_pre : ∀ (l : Kd) (k : Nat), (l.pre k).prod ≤ l.prod
  | .nil, _ => Nat.le_refl _
  | .snoc l n, k => by
    rw [Kd.pre]
    split
    · have := l.prod_pre k
      rw [Kd.prod]; omega
    · exact Nat.le_refl _

/-! In memory -/
/-- A slice of n elements of so many cells each. -/
def Row (W : World) (F : Nat → Prop) (v : Value) (n sz : Nat) (cs : List Value) : Prop :=
  cs.length = n * sz ∧ ∃ ao cap, v = .slice ao n cap ∧ (0 < n → ∃ b o, F b ∧ ao = some ⟨b, o, none⟩ ∧ W.rangeAt b o cs)
def mcells (l : List Mr) : List Value := l.flatMap fun m => [.int .i64 m.kind, .string m.name, .string m.value]
def scells (l : List ByteArray) : List Value := l.map .string
/-- A node's cells. -/
abbrev ncl (f : Fd) (vM vG vX vI vK : Value) : List Value :=
  [.int .i64 f.kind, .float .f64 f.num, .int .i64 f.fn, vM, .int .i64 f.range, .int .i64 f.step, .int .i64 f.offset, .int .i64 f.ghow, vG, .int .i64 f.xhow, vX, .int .i64 f.card, vI, .bool f.flag, .string f.name, .string f.value, vK]
structure Flds (W : World) (F : Nat → Prop) (f : Fd) (vM vG vX vI : Value) : Prop where
  m : Row W F vM f.m.length 3 (mcells f.m)
  g : Row W F vG f.gn.length 1 (scells f.gn)
  x : Row W F vX f.xn.length 1 (scells f.xn)
  i : Row W F vI f.incl.length 1 (scells f.incl)
mutual
def Nd.Held (W : World) (F : Nat → Prop) : Nd → List Value → Prop
  | .mk f l, cs => ∃ vM vG vX vI vK ls, cs = ncl f vM vG vX vI vK ∧ Flds W F f vM vG vX vI ∧ l.Held W F ls ∧ Row W F vK l.len 17 ls
def Kd.Held (W : World) (F : Nat → Prop) : Kd → List Value → Prop
  | .nil, cs => cs = []
  | .snoc l n, cs => ∃ a b, cs = a ++ b ∧ b.length = 17 ∧ l.Held W F a ∧ n.Held W F b
end
theorem range_keep {W W1 : World} {b o : Nat} {cs : List Value} (h : W.rangeAt b o cs) (hk : b < W.heap.size → W1.heap[b]? = W.heap[b]?) : W1.rangeAt b o cs := fun j v hv => by
  have h1 := h j v hv
  have hlt := World.block_lt_of_cell? W _ h1
  rw [World.cell?_of_block (hk hlt)]; exact h1
def Keeps (W W1 : World) (F F1 : Nat → Prop) : Prop := ∀ b, F b → b < W.heap.size → W1.heap[b]? = W.heap[b]? ∧ F1 b
theorem Row.keep {W W1 : World} {F F1 : Nat → Prop} {v : Value} {n sz : Nat} {cs : List Value} (h : Row W F v n sz cs) (hsz : 0 < sz) (hk : Keeps W W1 F F1) : Row W1 F1 v n sz cs := by
  obtain ⟨hl, ao, cap, hv, hc⟩ := h
  refine ⟨hl, ao, cap, hv, fun h0 => ?_⟩
  obtain ⟨b, o, hF, ha, hr⟩ := hc h0
  have hb : b < W.heap.size := by
    have hj : 0 < cs.length := by rw [hl]; exact Nat.mul_pos h0 hsz
    exact World.block_lt_of_cell? W _ (hr 0 _ (List.getElem?_eq_getElem hj))
  exact ⟨b, o, (hk b hF hb).2, ha, range_keep hr fun _ => (hk b hF hb).1⟩
theorem Flds.keep {W W1 : World} {F F1 : Nat → Prop} {f : Fd} {vM vG vX vI : Value} (h : Flds W F f vM vG vX vI) (hk : Keeps W W1 F F1) : Flds W1 F1 f vM vG vX vI :=
  ⟨h.m.keep (by decide) hk, h.g.keep (by decide) hk, h.x.keep (by decide) hk, h.i.keep (by decide) hk⟩
mutual
theorem Nd.Held.keep {W W1 : World} {F F1 : Nat → Prop} (hk : Keeps W W1 F F1) : ∀ (n : Nd) {cs : List Value}, n.Held W F cs → n.Held W1 F1 cs
  | .mk f l, cs, h => by
    rw [Nd.Held] at h ⊢
    obtain ⟨vM, vG, vX, vI, vK, ls, hc, hf, hl, hK⟩ := h
    exact ⟨vM, vG, vX, vI, vK, ls, hc, hf.keep hk, Kd.Held.keep hk l hl, hK.keep (by decide) hk⟩
theorem Kd.Held.keep {W W1 : World} {F F1 : Nat → Prop} (hk : Keeps W W1 F F1) : ∀ (l : Kd) {cs : List Value}, l.Held W F cs → l.Held W1 F1 cs
  | .nil, cs, h => by rw [Kd.Held] at h ⊢; exact h
  | .snoc l n, cs, h => by
    rw [Kd.Held] at h ⊢
    obtain ⟨a, b, hc, hb, h1, h2⟩ := h
    exact ⟨a, b, hc, hb, Kd.Held.keep hk l h1, Nd.Held.keep hk n h2⟩
end
/-- Anywhere. -/
def Any : Nat → Prop := fun _ => True
theorem Keeps.below {W W1 : World} (hb : Below W.heap.size W W1) : Keeps W W1 Any Any := fun b _ hlt => ⟨hb.block b hlt, trivial⟩
theorem Nd.Held.below {W W1 : World} {n : Nd} {cs : List Value} (h : n.Held W Any cs) (hb : Below W.heap.size W W1) : n.Held W1 Any cs := Nd.Held.keep (Keeps.below hb) n h
theorem Nd.Held.any {W : World} {F : Nat → Prop} {n : Nd} {cs : List Value} (h : n.Held W F cs) : n.Held W Any cs := Nd.Held.keep (fun _ _ _ => ⟨rfl, trivial⟩) n h
theorem Nd.Held.length {W : World} {F : Nat → Prop} {n : Nd} {cs : List Value} (h : n.Held W F cs) : cs.length = 17 := by
  obtain ⟨f, l⟩ := n
  rw [Nd.Held] at h
  obtain ⟨_, _, _, _, _, _, rfl, _⟩ := h
  rfl
/-- One kid of a row. -/
theorem Kd.Held.kid {W : World} {F : Nat → Prop} : ∀ {l : Kd} {ls : List Value}, l.Held W F ls → ls.length = l.len * 17 ∧ ∀ (i : Nat) (n : Nd), l.kids[i]? = some n → ∃ c : List Value, c.length = 17 ∧ n.Held W F c ∧ ∀ j, j < 17 → ls[i * 17 + j]? = c[j]?
  | .nil, ls, h => by
    rw [Kd.Held] at h
    subst h
    exact ⟨rfl, fun i n hi => by simp [Kd.kids] at hi⟩
  | .snoc l m, ls, h => by
    rw [Kd.Held] at h
    obtain ⟨a, b, hc, hb, h1, h2⟩ := h
    obtain ⟨e1, e2⟩ := Kd.Held.kid h1
    subst hc
    refine ⟨by rw [List.length_append, e1, hb]; show _ = (l.len + 1) * 17; omega, fun i n hi => ?_⟩
    have hkl := l.kids_length
    rw [Kd.kids] at hi
    by_cases hlt : i < l.kids.length
    · rw [List.getElem?_append_left hlt] at hi
      obtain ⟨c, h3, h4, h5⟩ := e2 i n hi
      refine ⟨c, h3, h4, fun j hj => ?_⟩
      rw [List.getElem?_append_left (by rw [e1]; rw [hkl] at hlt; omega)]
      exact h5 j hj
    · rw [List.getElem?_append_right (by omega)] at hi
      have hi0 : i = l.len := by
        have := (List.getElem?_eq_some_iff.1 hi).1
        simp at this; omega
      subst hi0
      rw [hkl, Nat.sub_self] at hi
      simp at hi
      subst hi
      refine ⟨b, hb, h2, fun j hj => ?_⟩
      rw [List.getElem?_append_right (by omega), e1]
      congr 1; omega
theorem row_one {W : World} {F : Nat → Prop} {v : Value} {n sz : Nat} {cs : List Value} (h : Row W F v n sz cs) : v.oneCell' = true := by
  obtain ⟨_, ao, cap, rfl, _⟩ := h
  rfl
theorem Nd.Held.one {W : World} {F : Nat → Prop} {n : Nd} {c : List Value} (h : n.Held W F c) : ∀ u ∈ c, u.oneCell' = true := by
  obtain ⟨f, l⟩ := n
  rw [Nd.Held] at h
  obtain ⟨vM, vG, vX, vI, vK, _, rfl, hf, _, hK⟩ := h
  intro u hu
  simp only [List.mem_cons, List.not_mem_nil, or_false] at hu
  rcases hu with rfl | rfl | rfl | rfl | rfl | rfl | rfl | rfl | rfl | rfl | rfl | rfl | rfl | rfl | rfl | rfl | rfl
  all_goals first | rfl | exact row_one hf.m | exact row_one hf.g | exact row_one hf.x | exact row_one hf.i | exact row_one hK
/-- A node's kids: where they lie, and each of them. -/
theorem Nd.Held.open {W : World} {F : Nat → Prop} {f : Fd} {l : Kd} {cs : List Value} (h : (Nd.mk f l).Held W F cs) :
    ∃ vM vG vX vI ao cap ls, cs = ncl f vM vG vX vI (.slice ao l.len cap) ∧ Flds W F f vM vG vX vI ∧ l.Held W F ls ∧ Row W F (.slice ao l.len cap) l.len 17 ls := by
  rw [Nd.Held] at h
  obtain ⟨vM, vG, vX, vI, vK, ls, hc, hf, hl, hK⟩ := h
  have hK' := hK
  obtain ⟨_, ao, cap, rfl, _⟩ := hK'
  exact ⟨vM, vG, vX, vI, ao, cap, ls, hc, hf, hl, hK⟩
theorem kid_at {W : World} {F : Nat → Prop} {l : Kd} {ls : List Value} {ao : Option Addr} {cap : Nat} (hl : l.Held W F ls) (hK : Row W F (.slice ao l.len cap) l.len 17 ls) {k : Nat} (hk : k < l.len) :
    ∃ b o, ao = some ⟨b, o, none⟩ ∧ ∃ n c, l.kids[k]? = some n ∧ W.rangeAt b (o + k * 17) c ∧ n.Held W F c := by
  obtain ⟨hlen, ao', cap', hv, hc⟩ := hK
  simp only [Value.slice.injEq, true_and] at hv
  obtain ⟨rfl, rfl⟩ := hv
  obtain ⟨b, o, hF, ha, hr⟩ := hc (by omega)
  obtain ⟨n, hn⟩ := l.kid_of hk
  obtain ⟨_, e2⟩ := hl.kid
  obtain ⟨c, h1, h2, h3⟩ := e2 k _ hn
  refine ⟨b, o, ha, n, c, hn, fun j v hv => ?_, h2⟩
  have hj : j < 17 := by
    have := (List.getElem?_eq_some_iff.1 hv).1
    omega
  rw [Nat.add_assoc]
  exact hr _ _ ((h3 j hj).trans hv)
/-- A node's zero. -/
def zcl : List Value := [.int .i64 0, .float .f64 0, .int .i64 0, .slice none 0 0, .int .i64 0, .int .i64 0, .int .i64 0, .int .i64 0, .slice none 0 0, .int .i64 0, .slice none 0 0, .int .i64 0, .slice none 0 0, .bool false, .string ⟨#[]⟩, .string ⟨#[]⟩, .slice none 0 0]
theorem infoNd : (Tryz.prog.info? 31).map (fun i => (i.zero, i.size)) = some (some (.agg zcl.toArray), 17) := by kernel_rfl
theorem sizeNd : (Tryz.prog.info? 31).map (·.size) = some 17 := by kernel_rfl
theorem zeroNd (w : World) : (zeroValue 31).run Tryz.prog w = .ok (.agg zcl.toArray) w := (zero_of_info infoNd).1 w
theorem loadNd {W : World} {b o : Nat} {c : List Value} (h : W.rangeAt b o c) (hl : c.length = 17) : (Instr.loadAt 31 (.pointer (some ⟨b, o, none⟩))).run Tryz.prog W = .ok (.agg c.toArray) W :=
  run_loadAt_mid W b o 31 c _ h Tryz.underlying31 rfl (by rw [sizeNd, hl])
theorem range_blk {W : World} {b : Nat} {c : List Value} {t : TypeId} {fr : Nat × Nat} (h : W.heap[b]? = some (.cells c.toArray t fr)) : W.rangeAt b 0 c := fun j v hv => by
  rw [blk_cell h]; simpa using hv
theorem storeNd {c : List Value} (hl : c.length = 17) (h1 : ∀ u ∈ c, u.oneCell' = true) (w : World) :
    (Instr.storeAt 31 (.pointer (some ⟨w.heap.size, 0, none⟩)) (.agg c.toArray)).run Tryz.prog (w.alloc (.cells zcl.toArray 31)) = .ok () (w.alloc (.cells c.toArray 31)) :=
  run_storeAt_new w 31 zcl.toArray c.toArray (by rw [sizeNd]; simp [hl]) (by simp [hl, zcl]) (all_oneCell_toArray h1)
theorem storeNd2 {c : List Value} (hl : c.length = 17) (h1 : ∀ u ∈ c, u.oneCell' = true) (w : World) :
    (storeCells ⟨w.heap.size, 0, none⟩ c 0).run Tryz.prog (w.alloc (.cells zcl.toArray 31)) = .ok () (w.alloc (.cells c.toArray 31)) :=
  run_storeCells_new w 31 zcl.toArray c.toArray (by rw [sizeNd]; simp [hl]) (by simp [hl, zcl]) (all_oneCell_toArray h1)
theorem loadNd2 {W : World} {b o : Nat} {c : List Value} (h : W.rangeAt b o c) (hl : c.length = 17) : (loadCellsFrom ⟨b, o, none⟩ 0 17 #[]).run Tryz.prog W = .ok c.toArray W := by
  have := run_loadCells_list (P := Tryz.prog) W ⟨b, o, none⟩ c (fun j v hv => by rw [Addr.add_mid]; exact h j v hv)
  rw [hl] at this
  simpa [loadCells] using this
theorem reloadNd {c : List Value} (hl : c.length = 17) (w : World) :
    (Instr.loadAt 31 (.pointer (some ⟨w.heap.size, 0, none⟩))).run Tryz.prog (w.alloc (.cells c.toArray 31)) = .ok (.agg c.toArray) (w.alloc (.cells c.toArray 31)) :=
  loadNd (range_blk (blk_new w _)) hl
theorem reloadNd2 {c : List Value} (hl : c.length = 17) (w : World) :
    (loadCellsFrom ⟨w.heap.size, 0, none⟩ 0 17 #[]).run Tryz.prog (w.alloc (.cells c.toArray 31)) = .ok c.toArray (w.alloc (.cells c.toArray 31)) :=
  loadNd2 (range_blk (blk_new w _)) hl
theorem box_cell {W : World} {c : List Value} (j : Nat) {u : Value} (h : c[j]? = some u) : (W.alloc (.cells c.toArray 31)).cell? ⟨W.heap.size, j, none⟩ = some u := by
  rw [blk_cell (blk_new W _)]; simpa using h
/-- A node is read. -/
theorem wpList_loadNd {ops : Array Oper} {rest : List Oper} {op : Oper} {a : Act} {w : World} {Q : Exit → Act → World → Prop} (hgd : op.guard = none) (x : Operand) (ho : op.op = .load 31 x)
    (b o : Nat) (hx : a.eval x = .pointer (some ⟨b, o, none⟩)) (c : List Value) (hc : w.rangeAt b o c) (hl : c.length = 17)
    (h : wpList Tryz.prog ops Q rest (a.put op.dst (.agg c.toArray)) w) : wpList Tryz.prog ops Q (op :: rest) a w :=
  wpList_load_mid hgd 31 x ho b o hx c _ hc Tryz.underlying31 rfl (by rw [sizeNd, hl]) h
/-- A new variable is laid, and a node into it. -/
theorem wpList_newNd {ops : Array Oper} {rest : List Oper} {o1 o2 : Oper} {a : Act} {w : World} {Q : Exit → Act → World → Prop} (hg1 : o1.guard = none) (hg2 : o2.guard = none) (d : Nat) (y : Operand)
    (h1 : o1.op = .alloc 31) (hd1 : o1.dst = some d) (h2 : o2.op = .store 31 (.tmp d) y) (hd2 : o2.dst = none) (c : List Value)
    (hx : (a.put (some d) (.pointer (some ⟨w.heap.size, 0, none⟩))).eval (.tmp d) = .pointer (some ⟨w.heap.size, 0, none⟩)) (hy : (a.put (some d) (.pointer (some ⟨w.heap.size, 0, none⟩))).eval y = .agg c.toArray) (hl : c.length = 17) (hone : ∀ u ∈ c, u.oneCell' = true)
    (h : wpList Tryz.prog ops Q rest (a.put (some d) (.pointer (some ⟨w.heap.size, 0, none⟩))) (w.alloc (.cells c.toArray 31))) : wpList Tryz.prog ops Q (o1 :: o2 :: rest) a w := by
  refine Great.wpList_runTo hg1 (some d) hd1 (.pointer (some ⟨w.heap.size, 0, none⟩)) (w.alloc (.cells zcl.toArray 31)) ?_ ?_
  · unfold execOp
    have hz := zeroNd w
    simp [h1, Instr.alloc, Sem.run_bind, hz]
    rfl
  refine wpList_plain hg2 fun K hK => ?_
  have hK2 := hK _ _ h
  unfold Oper.wp execOp
  simp only [h2, hx, hy, Instr.storeAt, Instr.sureAddr, Sem.run_bind, Sem.run_pure, Result.andThen_ok, run_storeVar_new (P := Tryz.prog) w 31 zcl.toArray c.toArray (by rw [sizeNd]; simp [hl]) (by simp [hl, zcl]) (all_oneCell_toArray hone)]
  show K ((a.put (some d) (.pointer (some ⟨w.heap.size, 0, none⟩))).put o2.dst undef) _
  rw [hd2]
  exact hK2
end Go.Proofs.YtnbgigdloehbjaaGreatDoor.Ir
