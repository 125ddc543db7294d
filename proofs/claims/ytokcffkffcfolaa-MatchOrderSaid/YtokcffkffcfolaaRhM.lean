/-
  Slices of one node, of one instruction; the document's instructions in memory.
-/
import Derived.Test.YtokcffkffcfolaaRhA
import Derived.Test.YtokcffkffcfolaaRhL
namespace Go.Proofs.Ytokcffkffcfolaa.Rh
open Go Go.RowKit Go.Proofs.Ytokcffkffcfolaa.Rg

theorem fill_one (s : Nat) (hs : 0 < s) (zero cs : Array Value) (hz : zero.size = s) (hc : cs.size = s) : Instr.fill (fun i => some (i * s, s)) zero [(0, .agg cs)] = some cs := by
  obtain ⟨r, hr, h1, h2⟩ := Great.fill_dense hs [.agg cs] 0 zero (fun v hv => by rw [List.mem_singleton] at hv; subst hv; exact hc) (by simp [hz])
  have e : (([Value.agg cs].zipIdx 0).map fun x => (x.2, x.1)) = [(0, .agg cs)] := rfl
  rw [e] at hr
  rw [hr]
  congr 1
  apply Array.ext_getElem?
  intro k
  rw [h2 k]
  by_cases hk : k < s
  · rw [if_pos (by simp; omega)]
    simp [Nat.div_eq_of_lt hk, Nat.mod_eq_of_lt hk, Value.cells]
  · rw [if_neg (by simp; omega), Array.getElem?_eq_none (by omega), Array.getElem?_eq_none (by omega)]

/-- A slice of one element that is laid out by its cells. -/
theorem wp_slice1 {P : Program} {o : Oper} {a : Act} {w : World} {K : Act → World → Prop} {Q : Exit → Act → World → Prop} (t e : TypeId) (s : Nat) (z : Value) (x : Operand) (ho : o.op = .buildSlice t 1 #[(0, x)])
    (cs : Array Value) (hx : a.eval x = .agg cs) (hu : P.underlying t = some (.slice e)) (hi : (P.info? e).map (fun i => (i.zero, i.size)) = some (some z, s)) (hs : 0 < s) (hs2 : s ≤ 2 ^ 24) (hc : cs.size = s)
    (h : K (a.put o.dst (.slice (some ⟨w.heap.size, 0, none⟩) 1 1)) (w.alloc (.cells cs e))) : o.wp P a w K Q := by
  cases hie : P.info? e with
  | none => simp [hie] at hi
  | some ie =>
    simp only [hie, Option.map_some, Option.some.injEq, Prod.mk.injEq] at hi
    obtain ⟨hz, hsz⟩ := hi
    refine wp_buildSlice t e 1 #[(0, x)] ho cs ie z hu hie hz (by rw [hsz]; omega) (by rw [hsz]; omega) ?_ h
    have e1 : (#[(0, x)].map fun (i, x) => (i, a.eval x)).toList = [(0, .agg cs)] := by simp [hx]
    rw [e1, hsz]
    exact fill_one s hs _ cs (by simp) hc
theorem fill_cell (place : Nat → Option (Nat × Nat)) (cells : Array Value) (i off : Nat) (v : Value) (rest : List (Nat × Value)) (hp : place i = some (off, 1)) (hv : v.cells = #[v]) (ho : off + 1 ≤ cells.size) :
    Instr.fill place cells ((i, v) :: rest) = Instr.fill place (cells.setIfInBounds off v) rest := by
  rw [Instr.fill]
  simp only [hp, hv]
  rw [if_neg (by simp; omega)]
  simp
theorem fill_part (place : Nat → Option (Nat × Nat)) (cells : Array Value) (i off : Nat) (cs r : Array Value) (rest : List (Nat × Value)) (hp : place i = some (off, cs.size)) (ho : off + cs.size ≤ cells.size)
    (hr : ∀ k, (if off ≤ k ∧ k < off + cs.size then cs[k - off]? else cells[k]?) = r[k]?) : Instr.fill place cells ((i, .agg cs) :: rest) = Instr.fill place r rest := by
  rw [Instr.fill]
  simp only [hp]
  rw [if_neg (by simp [Value.cells]; omega)]
  show Instr.fill place (cs.zipIdx.foldl (fun cs' (x : Value × Nat) => cs'.setIfInBounds (off + x.2) x.1) cells) rest = Instr.fill place r rest
  congr 1
  obtain ⟨g1, g2⟩ := Great.foldl_set off cs.toList 0 cells
  have e : cs.zipIdx.foldl (fun cs' (x : Value × Nat) => cs'.setIfInBounds (off + x.2) x.1) cells = (cs.toList.zipIdx 0).foldl (fun cs' (x : Value × Nat) => cs'.setIfInBounds (off + x.2) x.1) cells := by
    rw [← Array.foldl_toList]; simp
  apply Array.ext_getElem?
  intro k
  rw [← hr k]
  have := g2 k
  rw [← e] at this
  rw [this]
  simp only [Nat.add_zero, Array.length_toList]
  by_cases hk : off ≤ k ∧ k < off + cs.size
  · rw [if_pos hk, if_pos ⟨hk.1, hk.2, by omega⟩]; simp
  · rw [if_neg hk, if_neg (by omega)]

/-! Instructions -/
def rcl (x : Inst) : List Value := .int .i64 ((x.kind : Int) + 1) :: (bcells x.set.has ++ [.int .i64 x.a, .int .i64 x.b])
def rflat (l : List Inst) : List Value := l.flatMap rcl
theorem rcl_length (x : Inst) : (rcl x).length = 259 := by simp [rcl, bcells_length]
theorem rflat_length (l : List Inst) : (rflat l).length = l.length * 259 := by
  induction l with
  | nil => rfl
  | cons x l ih => simp only [rflat, List.flatMap_cons, List.length_append, rcl_length] at *; rw [ih]; simp; omega
theorem rflat_append (l m : List Inst) : rflat (l ++ m) = rflat l ++ rflat m := by simp [rflat]
theorem rflat_one (x : Inst) : rflat [x] = rcl x := by simp [rflat]
theorem rflat_get (l : List Inst) (i j : Nat) (hi : i < l.length) (hj : j < 259) : (rflat l)[i * 259 + j]? = (rcl (l[i]'hi))[j]? := by
  induction l generalizing i with
  | nil => simp at hi
  | cons x l ih =>
    have hx := rcl_length x
    cases i with
    | zero => simp only [rflat, List.flatMap_cons, Nat.zero_mul, Nat.zero_add, List.getElem_cons_zero]; rw [List.getElem?_append_left (by omega)]
    | succ i =>
      simp only [rflat, List.flatMap_cons, List.getElem_cons_succ] at *
      rw [List.getElem?_append_right (by omega), ← ih i (by simpa using hi), show (i + 1) * 259 + j - (rcl x).length = i * 259 + j by omega]
theorem rflat_set (l : List Inst) (i j : Nat) (hi : i < l.length) (u : Value) (x : Inst) (hx : rcl x = (rcl (l[i]'hi)).set j u) (hj : j < 259) : (rflat l).set (i * 259 + j) u = rflat (l.set i x) := by
  induction l generalizing i with
  | nil => simp at hi
  | cons y l ih =>
    have hy := rcl_length y
    cases i with
    | zero => simp only [rflat, List.flatMap_cons, Nat.zero_mul, Nat.zero_add, List.set_cons_zero, List.getElem_cons_zero] at *; rw [List.set_append_left _ _ (by omega), hx]
    | succ i =>
      simp only [rflat, List.flatMap_cons, List.getElem_cons_succ, List.set_cons_succ] at *
      rw [List.set_append_right _ _ (by omega), ← ih i (by simpa using hi) hx, show (i + 1) * 259 + j - (rcl y).length = i * 259 + j by omega]
set_option maxRecDepth 10000 in
theorem rcl_kind (x : Inst) : (rcl x)[0]? = some (.int .i64 ((x.kind : Int) + 1)) := by rw [rcl, List.getElem?_cons_zero]
theorem rcl_set (x : Inst) (c : Nat) (hc : c < 256) : (rcl x)[1 + c]? = some (.bool (x.set.has c)) := by
  rw [rcl, Nat.add_comm, List.getElem?_cons_succ, List.getElem?_append_left (by rw [bcells_length]; exact hc), bcells_get _ c hc]
theorem rcl_a (x : Inst) : (rcl x)[257]? = some (.int .i64 x.a) := by
  rw [rcl, List.getElem?_cons_succ, List.getElem?_append_right (by rw [bcells_length]; omega), bcells_length]; rfl
theorem rcl_b (x : Inst) : (rcl x)[258]? = some (.int .i64 x.b) := by
  rw [rcl, List.getElem?_cons_succ, List.getElem?_append_right (by rw [bcells_length]; omega), bcells_length]; rfl
theorem rcl_setA (x : Inst) (n : Nat) : (rcl x).set 257 (.int .i64 n) = rcl { x with a := n } := by
  rw [rcl, rcl, List.set_cons_succ, List.set_append_right _ _ (by rw [bcells_length]; omega), bcells_length]; rfl
theorem rcl_setB (x : Inst) (n : Nat) : (rcl x).set 258 (.int .i64 n) = rcl { x with b := n } := by
  rw [rcl, rcl, List.set_cons_succ, List.set_append_right _ _ (by rw [bcells_length]; omega), bcells_length]; rfl
set_option maxRecDepth 10000 in
theorem rcl_one (x : Inst) : ∀ u ∈ rcl x, u.oneCell' = true := by
  intro u hu
  simp only [rcl, bcells, List.mem_cons, List.mem_append, List.mem_map, List.not_mem_nil, or_false] at hu
  rcases hu with rfl | ⟨c, _, rfl⟩ | rfl | rfl <;> rfl

/-- An instruction's cells, laid out. -/
def icl (k : Int) (f : Nat → Bool) (a b : Int) : List Value := .int .i64 k :: (bcells f ++ [.int .i64 a, .int .i64 b])
theorem icl_length (k : Int) (f : Nat → Bool) (a b : Int) : (icl k f a b).length = 259 := by simp [icl, bcells_length]
theorem rcl_icl (x : Inst) : rcl x = icl ((x.kind : Int) + 1) x.set.has x.a x.b := rfl
theorem icl_k (k k' : Int) (f : Nat → Bool) (a b : Int) : (icl k f a b).toArray.setIfInBounds 0 (.int .i64 k') = (icl k' f a b).toArray := by
  rw [List.setIfInBounds_toArray, icl, List.set_cons_zero]; rfl
theorem icl_a (k a' : Int) (f : Nat → Bool) (a b : Int) : (icl k f a b).toArray.setIfInBounds 257 (.int .i64 a') = (icl k f a' b).toArray := by
  rw [List.setIfInBounds_toArray, icl, List.set_cons_succ, List.set_append_right _ _ (by rw [bcells_length]; omega), bcells_length]; rfl
theorem icl_b (k b' : Int) (f : Nat → Bool) (a b : Int) : (icl k f a b).toArray.setIfInBounds 258 (.int .i64 b') = (icl k f a b').toArray := by
  rw [List.setIfInBounds_toArray, icl, List.set_cons_succ, List.set_append_right _ _ (by rw [bcells_length]; omega), bcells_length]; rfl
def instPlaces : Array (Nat × Nat) := #[(0, 1), (1, 256), (257, 1), (258, 1)]
theorem infoInst : (Try.prog.info? 87).map (fun i => (i.zero, i.size)) = some (some (.agg (icl 0 (fun _ => false) 0 0).toArray), 259) := by kernel_rfl
theorem infoInst3 : (Try.prog.info? 87).map (fun i => (i.zero, i.size, i.bytes)) = some (some (.agg (icl 0 (fun _ => false) 0 0).toArray), 259, 280) := by kernel_rfl
theorem infoNode3 : (Try.prog.info? 38).map (fun i => (i.zero, i.size, i.bytes)) = some (some (.agg (ncl 0 nilS none256).toArray), 258, 288) := by kernel_rfl
theorem built87 (parts : List (Nat × Value)) : Try.prog.built 87 parts = Instr.fill (instPlaces[·]?) (icl 0 (fun _ => false) 0 0).toArray parts := by kernel_rfl
theorem icl_size (k : Int) (f : Nat → Bool) (a b : Int) : (icl k f a b).toArray.size = 259 := by simp [icl_length]
theorem builtByte (f : Nat → Bool) : Try.prog.built 87 [(0, .int .i64 1), (1, .agg (bcells f).toArray)] = some (icl 1 f 0 0).toArray := by
  rw [built87, fill_cell _ _ 0 0 _ _ rfl rfl (by rw [icl_size]; omega), icl_k, fill_part _ _ 1 1 _ (icl 1 f 0 0).toArray [] (by rw [List.size_toArray, bcells_length]; rfl) (by rw [icl_size]; simp [bcells_length]) (fun k => ?_)]
  · rfl
  · simp only [List.size_toArray, bcells_length, List.getElem?_toArray, icl]
    cases k with
    | zero => simp
    | succ k =>
      rw [List.getElem?_cons_succ, List.getElem?_cons_succ]
      by_cases hk : k < 256
      · rw [if_pos (by omega), List.getElem?_append_left (by rw [bcells_length]; exact hk), show k + 1 - 1 = k by omega]
      · rw [if_neg (by omega), List.getElem?_append_right (by rw [bcells_length]; omega), List.getElem?_append_right (by rw [bcells_length]; omega), bcells_length, bcells_length]
theorem builtFork (a : Int) : Try.prog.built 87 [(0, .int .i64 2), (2, .int .i64 a)] = some (icl 2 (fun _ => false) a 0).toArray := by
  rw [built87, fill_cell _ _ 0 0 _ _ rfl rfl (by rw [icl_size]; omega), icl_k, fill_cell _ _ 2 257 _ _ rfl rfl (by rw [icl_size]; omega), icl_a]; rfl
theorem builtFork2 (a b : Int) : Try.prog.built 87 [(0, .int .i64 2), (2, .int .i64 a), (3, .int .i64 b)] = some (icl 2 (fun _ => false) a b).toArray := by
  rw [built87, fill_cell _ _ 0 0 _ _ rfl rfl (by rw [icl_size]; omega), icl_k, fill_cell _ _ 2 257 _ _ rfl rfl (by rw [icl_size]; omega), icl_a, fill_cell _ _ 3 258 _ _ rfl rfl (by rw [icl_size]; omega), icl_b]; rfl
theorem builtJump0 : Try.prog.built 87 [(0, .int .i64 3)] = some (icl 3 (fun _ => false) 0 0).toArray := by
  rw [built87, fill_cell _ _ 0 0 _ _ rfl rfl (by rw [icl_size]; omega), icl_k]; rfl
theorem builtJump (a : Int) : Try.prog.built 87 [(0, .int .i64 3), (2, .int .i64 a)] = some (icl 3 (fun _ => false) a 0).toArray := by
  rw [built87, fill_cell _ _ 0 0 _ _ rfl rfl (by rw [icl_size]; omega), icl_k, fill_cell _ _ 2 257 _ _ rfl rfl (by rw [icl_size]; omega), icl_a]; rfl
theorem builtEnd : Try.prog.built 87 [(0, .int .i64 4)] = some (icl 4 (fun _ => false) 0 0).toArray := by
  rw [built87, fill_cell _ _ 0 0 _ _ rfl rfl (by rw [icl_size]; omega), icl_k]; rfl
end Go.Proofs.Ytokcffkffcfolaa.Rh
