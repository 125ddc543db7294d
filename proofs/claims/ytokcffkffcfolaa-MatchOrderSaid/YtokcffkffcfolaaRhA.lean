/-
  The document's reader of patterns (package isobarref4): where it and its nodes lie in memory; its small methods fail, more; among, special.
-/
import Derived.Test.YtokcffkffcfolaaRgX
import Derived.Test.YtokcffkffcfolaaRhT
import Derived.Deep.MidRow
import Derived.Great.BuildSlice
namespace Go.Proofs.Ytokcffkffcfolaa.Rh
open Go Go.RowKit Go.Proofs.Ytokcffkffcfolaa.Rg

def bcells (f : Nat → Bool) : List Value := (List.range 256).map fun c => .bool (f c)
/-- A node's cells. -/
def ncl (k : Int) (v : Value) (f : Nat → Bool) : List Value := .int .i64 k :: v :: bcells f
def nilS : Value := .slice none 0 0
def none256 : Nat → Bool := fun _ => false
theorem bcells_length (f : Nat → Bool) : (bcells f).length = 256 := by simp [bcells]
theorem ncl_length (k : Int) (v : Value) (f : Nat → Bool) : (ncl k v f).length = 258 := by simp [ncl, bcells_length]
theorem bcells_get (f : Nat → Bool) (c : Nat) (hc : c < 256) : (bcells f)[c]? = some (.bool (f c)) := by simp [bcells, hc]
theorem ncl_get (k : Int) (v : Value) (f : Nat → Bool) (c : Nat) (hc : c < 256) : (ncl k v f)[2 + c]? = some (.bool (f c)) := by
  rw [ncl, show 2 + c = c + 1 + 1 by omega, List.getElem?_cons_succ, List.getElem?_cons_succ, bcells_get f c hc]
theorem bcells_congr {f h : Nat → Bool} (e : ∀ c, c < 256 → f c = h c) : bcells f = bcells h := by
  unfold bcells
  apply List.map_congr_left
  intro c hc
  rw [e c (List.mem_range.1 hc)]
theorem bcells_set (f : Nat → Bool) (c : Nat) (hc : c < 256) (b : Bool) : (bcells f).set c (.bool b) = bcells (fun x => if x = c then b else f x) := by
  apply List.ext_getElem?
  intro i
  rw [List.getElem?_set, bcells_length]
  by_cases hi : i < 256
  · rw [bcells_get _ i hi]
    by_cases e : c = i
    · subst e; rw [bcells_get _ c hc]; simp [hc]
    · rw [if_neg e, bcells_get _ i hi, if_neg (Ne.symm e)]
  · rw [List.getElem?_eq_none (by rw [bcells_length]; omega), if_neg (by omega), List.getElem?_eq_none (by rw [bcells_length]; omega)]
theorem ncl_set (k : Int) (v : Value) (f : Nat → Bool) (c : Nat) (hc : c < 256) (b : Bool) : (ncl k v f).toArray.setIfInBounds (2 + c) (.bool b) = (ncl k v (fun x => if x = c then b else f x)).toArray := by
  rw [List.setIfInBounds_toArray, ncl, show 2 + c = c + 1 + 1 by omega, List.set_cons_succ, List.set_cons_succ, bcells_set f c hc]; rfl
theorem ncl_kids (k : Int) (v u : Value) (f : Nat → Bool) : (ncl k v f).toArray.setIfInBounds 1 u = (ncl k u f).toArray := by
  rw [List.setIfInBounds_toArray]; rfl
theorem ncl_one {k : Int} {v : Value} {f : Nat → Bool} (hv : v.oneCell' = true) : ∀ u ∈ ncl k v f, u.oneCell' = true := by
  intro u hu
  rw [ncl, List.mem_cons, List.mem_cons] at hu
  rcases hu with rfl | rfl | hu
  · rfl
  · exact hv
  · simp only [bcells, List.mem_map] at hu
    obtain ⟨c, _, rfl⟩ := hu
    rfl

/-- The kids' row. -/
def Kids (W : World) (F : Nat → Prop) (v : Value) (n : Nat) (cs : List Value) : Prop := (n = 0 ∧ v = nilS) ∨ (0 < n ∧ cs.length = n * 258 ∧ ∃ b cap, F b ∧ v = .slice (some ⟨b, 0, none⟩) n cap ∧ W.rangeAt b 0 cs)
/-- The tree lies in memory, in blocks of F; its own cells. -/
def Held (W : World) (F : Nat → Prop) : T → List Value → Prop
  | .set S, cs => cs = ncl 3 nilS S.has
  | .node k l, cs => ∃ v ls, cs = ncl k v none256 ∧ Held W F l ls ∧ Kids W F v l.len ls
  | .nil, cs => cs = []
  | .snoc l n, cs => ∃ a b, cs = a ++ b ∧ a.length = l.len * 258 ∧ b.length = 258 ∧ Held W F l a ∧ Held W F n b
theorem range_keep {W W1 : World} {b o : Nat} {cs : List Value} (h : W.rangeAt b o cs) (hk : b < W.heap.size → W1.heap[b]? = W.heap[b]?) : W1.rangeAt b o cs := fun j v hv => by
  have h1 := h j v hv
  have hlt := block_lt_of_cell h1
  rw [World.cell?_of_block (hk hlt)]; exact h1
theorem Kids.keep {W W1 : World} {F F1 : Nat → Prop} {v : Value} {n : Nat} {cs : List Value} (h : Kids W F v n cs) (hk : ∀ b, F b → b < W.heap.size → W1.heap[b]? = W.heap[b]? ∧ F1 b) : Kids W1 F1 v n cs := by
  rcases h with h | ⟨h0, hl, b, cap, hF, rfl, hr⟩
  · exact .inl h
  · have hb : b < W.heap.size := by
      have hj : 0 < cs.length := by omega
      exact block_lt_of_cell (hr 0 _ (List.getElem?_eq_getElem hj))
    exact .inr ⟨h0, hl, b, cap, (hk b hF hb).2, rfl, range_keep hr fun h => (hk b hF h).1⟩
theorem Held.keep {W W1 : World} {F F1 : Nat → Prop} (hk : ∀ b, F b → b < W.heap.size → W1.heap[b]? = W.heap[b]? ∧ F1 b) : ∀ {t : T} {cs : List Value}, Held W F t cs → Held W1 F1 t cs
  | .set _, _, h => h
  | .node _ _, _, ⟨v, ls, hc, hl, hK⟩ => ⟨v, ls, hc, Held.keep hk hl, hK.keep hk⟩
  | .nil, _, h => h
  | .snoc _ _, _, ⟨a, b, hc, ha, hb, h1, h2⟩ => ⟨a, b, hc, ha, hb, Held.keep hk h1, Held.keep hk h2⟩

/-- But for block g nothing that was there turns. -/
structure Only (g : Nat) (W W' : World) : Prop where
  os : W'.os = W.os
  tape : W'.tape = W.tape
  output : W'.output = W.output
  size : W.heap.size ≤ W'.heap.size
  block : ∀ k, k < W.heap.size → k ≠ g → W'.heap[k]? = W.heap[k]?
section
variable {g : Nat} {W W1 W2 : World}
theorem Only.refl (g : Nat) (W : World) : Only g W W := ⟨rfl, rfl, rfl, Nat.le_refl _, fun _ _ _ => rfl⟩
theorem Only.trans (h : Only g W W1) (k : Only g W1 W2) : Only g W W2 :=
  ⟨k.os.trans h.os, k.tape.trans h.tape, k.output.trans h.output, Nat.le_trans h.size k.size, fun i hi hg => (k.block i (Nat.lt_of_lt_of_le hi h.size) hg).trans (h.block i hi hg)⟩
theorem Only.drew (h : Only g W W1) : Only g W W1.drew := ⟨h.os, h.tape, h.output, h.size, h.block⟩
theorem Only.drewN (h : Only g W W1) (n : Nat) : Only g W (W1.drewN n) := ⟨h.os, h.tape, h.output, h.size, h.block⟩
theorem Only.alloc (h : Only g W W1) (o : Obj) : Only g W (W1.alloc o) :=
  ⟨h.os, h.tape, h.output, by have := h.size; simp; omega, fun k hk hg => (Below.heap_alloc _ _ _ (Nat.lt_of_lt_of_le hk h.size)).trans (h.block k hk hg)⟩
/-- block g, or a block that was not there, is written -/
theorem Only.cell (h : Only g W W1) {p : Addr} (hp : p.block = g ∨ W.heap.size ≤ p.block) (u : Value) : Only g W (W1.setCell p u) :=
  ⟨h.os, h.tape, h.output, by have := h.size; simp [World.setCell]; omega, fun k hk hg => (Below.heap_setCell _ _ _ _ (by omega)).trans (h.block k hk hg)⟩
theorem Only.row (h : Only g W W1) {b : Nat} (hp : b = g ∨ W.heap.size ≤ b) (cs : Array Value) : Only g W (W1.setRow b cs) :=
  ⟨h.os, h.tape, h.output, by have := h.size; simp; omega, fun k hk hg => (setRow_other _ _ _ _ (by omega)).trans (h.block k hk hg)⟩
theorem Only.grown (h : Only g W W1) {row : Option Nat} (hg : W1.grownBy W2 row) (hr : ∀ k, row = some k → W.heap.size ≤ k) : Only g W W2 :=
  ⟨hg.os.trans h.os, hg.tape.trans h.tape, hg.output.trans h.output, Nat.le_trans h.size hg.size, fun k hk hgg => (hg.block k (Nat.lt_of_lt_of_le hk h.size) (fun e => by have := hr k e.symm; omega)).trans (h.block k hk hgg)⟩
theorem Only.blk (h : Only g W W1) {k : Nat} {o : Obj} (hb : W.heap[k]? = some o) (hg : k ≠ g) : W1.heap[k]? = some o := (h.block k (blk_lt hb) hg).trans hb
theorem Only.own (h : Only g W W1) {base : Nat} {e : TypeId} {size : Nat} {v : Value} {n : Nat} {xs : List Value} (ho : W.ownsRow base e size v n xs) (hg : v.ownBlock ≠ some g) : W1.ownsRow base e size v n xs := by
  refine ⟨ho.1, ?_⟩
  rcases ho.2 with hn | ⟨b, cap, cur, rfl, hb, hh, rest⟩
  · exact .inl hn
  · exact .inr ⟨b, cap, cur, rfl, hb, h.blk hh (fun e => hg (by rw [← e]; rfl)), rest⟩
theorem Only.held (h : Only g W W1) {F F1 : Nat → Prop} {t : T} {cs : List Value} (hH : Held W F t cs) (hF : ∀ b, F b → b < W.heap.size → b ≠ g ∧ F1 b) : Held W1 F1 t cs :=
  hH.keep fun b hb hlt => ⟨h.block b hlt (hF b hb hlt).1, (hF b hb hlt).2⟩
end

/-- The reader's block: its fields. -/
def RB (W : World) (g : Nat) (s : ByteArray) (a d e b : Int) : Prop := W.heap[g]? = some (.cells #[.string s, .int .i64 a, .int .i64 d, .int .i64 e, .int .i64 b] 81 (0, 0))
section
variable {W : World} {g : Nat} {s : ByteArray} {a d e b : Int}
theorem RB.c0 (h : RB W g s a d e b) : W.cell? ⟨g, 0, none⟩ = some (.string s) := blk_cell h 0
theorem RB.c1 (h : RB W g s a d e b) : W.cell? ⟨g, 1, none⟩ = some (.int .i64 a) := blk_cell h 1
theorem RB.c2 (h : RB W g s a d e b) : W.cell? ⟨g, 2, none⟩ = some (.int .i64 d) := blk_cell h 2
theorem RB.c3 (h : RB W g s a d e b) : W.cell? ⟨g, 3, none⟩ = some (.int .i64 e) := blk_cell h 3
theorem RB.c4 (h : RB W g s a d e b) : W.cell? ⟨g, 4, none⟩ = some (.int .i64 b) := blk_cell h 4
theorem RB.fz (h : RB W g s a d e b) (i : Nat) : W.frozen? ⟨g, i, none⟩ = false := blk_frozen h i
theorem RB.lt (h : RB W g s a d e b) : g < W.heap.size := blk_lt h
theorem RB.set1 (h : RB W g s a d e b) (n : Int) : RB (W.setCell ⟨g, 1, none⟩ (.int .i64 n)) g s n d e b := blk_set h 1 _
theorem RB.set2 (h : RB W g s a d e b) (n : Int) : RB (W.setCell ⟨g, 2, none⟩ (.int .i64 n)) g s a n e b := blk_set h 2 _
theorem RB.set3 (h : RB W g s a d e b) (n : Int) : RB (W.setCell ⟨g, 3, none⟩ (.int .i64 n)) g s a d n b := blk_set h 3 _
theorem RB.set4 (h : RB W g s a d e b) (n : Int) : RB (W.setCell ⟨g, 4, none⟩ (.int .i64 n)) g s a d e n := blk_set h 4 _
theorem RB.alloc (h : RB W g s a d e b) (o : Obj) : RB (W.alloc o) g s a d e b := blk_alloc h o
theorem RB.far (h : RB W g s a d e b) {p : Addr} (hp : p.block ≠ g) (u : Value) : RB (W.setCell p u) g s a d e b := blk_far h (Ne.symm hp) u
theorem RB.row (h : RB W g s a d e b) {p : Nat} (hp : p ≠ g) (cs : Array Value) : RB (W.setRow p cs) g s a d e b := (setRow_other _ _ _ _ (Ne.symm hp)).trans h
theorem RB.drewN (h : RB W g s a d e b) (n : Nat) : RB (W.drewN n) g s a d e b := h
end
/-- The reader lies at g just as r is. -/
def Ro (W : World) (g : Nat) (r : Rd) : Prop := RB W g r.s r.at_ r.deep r.err r.bad
/-- The reader has r's error; where there is none it is as r is. -/
def Ra (W : World) (g : Nat) (r : Rd) : Prop := ∃ a d : Int, RB W g r.s a d r.err r.bad ∧ (r.err = 0 → a = r.at_ ∧ d = r.deep)
theorem Ro.any {W : World} {g : Nat} {r : Rd} (h : Ro W g r) : Ra W g r := ⟨_, _, h, fun _ => ⟨rfl, rfl⟩⟩
theorem Ra.ok {W : World} {g : Nat} {r : Rd} (h : Ra W g r) (he : r.err = 0) : Ro W g r := by
  obtain ⟨a, d, hb, hk⟩ := h
  obtain ⟨rfl, rfl⟩ := hk he
  exact hb

theorem rfail_calls {W : World} {g : Nat} {r : Rd} (e p : Nat) (hI : Ro W g r) (h : r.err = 0) :
    Calls Try.prog 36 #[.pointer (some ⟨g, 0, none⟩), .int .i64 e, .int .i64 p] W fun q W' => q = .returned (.tuple #[]) ∧ Ro W' g (r.fail e p) ∧ Only g W W' := by
  have c3 := RB.c3 hI
  have c4 := RB.c4 hI
  have f3 := RB.fz hI 3
  have f4 := RB.fz hI 4
  have hr : r.fail e p = { r with err := e, bad := p } := if_pos h
  rw [h] at c3
  have HR := Lib.hid hr; clear hr
  have HI := Lib.hid hI; clear hI; have H := Lib.hid h; clear h
  go_enter Try.func36, Try.ntmps36
  go_wp2
  go_end0
  refine ⟨rfl, ?_, ?_⟩
  · rw [HR.out]; exact RB.set4 (RB.set3 HI.out e) p
  · exact ((Only.refl g W).cell (p := ⟨g, 3, none⟩) (.inl rfl) _).cell (p := ⟨g, 4, none⟩) (.inl rfl) _

theorem more_calls {W : World} {g : Nat} {s : ByteArray} {a d e b : Int} (hI : RB W g s a d e b) :
    Calls Try.prog 52 #[.pointer (some ⟨g, 0, none⟩)] W fun q W' => q = .returned (.bool ((e == 0) && decide (a < s.size))) ∧ ∃ m, W' = W.drewN m := by
  have c0 := hI.c0
  have c1 := hI.c1
  have c3 := hI.c3
  have HI := Lib.hid hI; clear hI
  obtain ⟨x, hx⟩ : ∃ x, (e == 0) = x := ⟨_, rfl⟩
  rw [hx]
  cases x
  · go_enter Try.func52, Try.ntmps52
    go_wp2
    go_quiet (fail)
    go_wp2
    go_ret
    exact ⟨rfl, _, rfl⟩
  · go_enter Try.func52, Try.ntmps52
    go_wp2
    go_quiet (fail)
    go_wp2
    go_ret
    exact ⟨by simp, _, rfl⟩
theorem more_ok {W : World} {g : Nat} {r : Rd} (hI : Ro W g r) :
    Calls Try.prog 52 #[.pointer (some ⟨g, 0, none⟩)] W fun q W' => q = .returned (.bool r.has) ∧ ∃ m, W' = W.drewN m :=
  (more_calls hI).mono fun q W' h => ⟨by
    rw [h.1, Rd.has]
    congr 3
    · rw [Bool.eq_iff_iff, beq_iff_eq, beq_iff_eq]; omega
    · rw [decide_eq_decide]; omega, h.2⟩
theorem more_bad {W : World} {g : Nat} {r : Rd} (hI : Ra W g r) (he : r.err ≠ 0) :
    Calls Try.prog 52 #[.pointer (some ⟨g, 0, none⟩)] W fun q W' => q = .returned (.bool false) ∧ ∃ m, W' = W.drewN m := by
  obtain ⟨a, d, hb, _⟩ := hI
  exact (more_calls hb).mono fun q W' h => ⟨by
    rw [h.1]
    have : ((r.err : Int) == 0) = false := by rw [beq_eq_false_iff_ne]; omega
    rw [this]; rfl, h.2⟩
theorem quiet_more {W : World} {g : Nat} {r : Rd} {n : Nat} (hI : Ro (W.drewN n) g r) :
    Calls Try.prog 52 #[.pointer (some ⟨g, 0, none⟩)] (W.drewN n) fun q W' => q = .returned (.bool r.has) ∧ ∃ m, W' = W.drewN m :=
  (more_ok hI).mono fun q W' ⟨h, m, hm⟩ => ⟨h, n + m, by rw [hm]; simp [World.drewN, Nat.add_assoc]⟩
theorem quiet_bad {W : World} {g : Nat} {r : Rd} {n : Nat} (hI : Ra (W.drewN n) g r) (he : r.err ≠ 0) :
    Calls Try.prog 52 #[.pointer (some ⟨g, 0, none⟩)] (W.drewN n) fun q W' => q = .returned (.bool false) ∧ ∃ m, W' = W.drewN m :=
  (more_bad hI he).mono fun q W' ⟨h, m, hm⟩ => ⟨h, n + m, by rw [hm]; simp [World.drewN, Nat.add_assoc]⟩

theorem contains_byteAt (s : ByteArray) (c : Nat) : (s.data.toList.map UInt8.toNat).contains c = true ↔ ∃ j, j < s.size ∧ byteAt s j = c := by
  rw [List.contains_iff_mem, List.mem_map]
  constructor
  · rintro ⟨x, hx, rfl⟩
    obtain ⟨j, hj, hx⟩ := List.mem_iff_getElem.1 hx
    rw [Array.length_toList] at hj
    refine ⟨j, hj, ?_⟩
    rw [byteAt, dif_pos (show j < s.size from hj), ← hx]; rfl
  · rintro ⟨j, hj, rfl⟩
    refine ⟨s[j]'hj, ?_, by rw [byteAt, dif_pos hj]⟩
    exact List.mem_iff_getElem.2 ⟨j, by rw [Array.length_toList]; exact hj, rfl⟩
/-- A byte among those of a text. -/
theorem among_calls {W : World} (c : Nat) (wh : ByteArray) (hz : wh.size ≤ 4096) (x : Bool) (hx : (wh.data.toList.map UInt8.toNat).contains c = x) :
    Calls Try.prog 53 #[.int .u8 c, .string wh] W fun q W' => q = .returned (.bool x) ∧ W' = W := by
  have HX := Lib.hid hx; clear hx
  go_enter Try.func53, Try.ntmps53
  go_wp2_with fail
  go_loopw [5] (fun i wq => ∃ k : Nat, k ≤ wh.size ∧ i = .int .i64 (k : Int) ∧ (∀ j, j < k → byteAt wh j ≠ c) ∧ wq = W) (fun i _ => wh.size - (intOf i).toNat)
  case atStart => exact ⟨0, Nat.zero_le _, rfl, fun j hj => by omega, rfl⟩
  case round =>
    obtain ⟨k, hk, rfl, hno, rfl⟩ := hrel
    have HNo := Lib.hid hno; clear hno
    by_cases hkb : k < wh.size
    · by_cases hcc : byteAt wh k = c
      · have hv : ((wh[k]'hkb).toNat : Int) = c := by rw [← hcc, byteAt, dif_pos hkb]
        have HC := Lib.hid hcc; clear hcc
        go_wp2_with fail
        go_ret
        exact ⟨by rw [← HX.out, (contains_byteAt wh c).2 ⟨k, hkb, HC.out⟩]; rfl, rfl⟩
      · have hv : (((wh[k]'hkb).toNat : Int) == (c : Int)) = false := by
          rw [beq_eq_false_iff_ne]
          intro h
          apply hcc
          rw [byteAt, dif_pos hkb]; omega
        have HC := Lib.hid hcc; clear hcc
        go_wp2_with fail
        go_roundw
        case rel => exact ⟨k + 1, by omega, by go_num, fun j hj => by
          rcases Nat.lt_succ_iff_lt_or_eq.1 hj with h | rfl
          · exact HNo.out j h
          · exact HC.out, trivial⟩
        case measure => (simp [intOf] <;> omega)
    · have hks : k = wh.size := by omega
      go_wp2_with fail
      go_ret
      refine ⟨?_, rfl⟩
      have : (wh.data.toList.map UInt8.toNat).contains c = false := by
        rw [Bool.eq_false_iff]
        intro h
        obtain ⟨j, hj, hjc⟩ := (contains_byteAt wh c).1 h
        exact HNo.out j (by omega) hjc
      rw [← HX.out, this]; rfl
end Go.Proofs.Ytokcffkffcfolaa.Rh
