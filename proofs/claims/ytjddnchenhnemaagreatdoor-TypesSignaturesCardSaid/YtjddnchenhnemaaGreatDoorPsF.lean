/-
  The reader of queries: one argument of a call is read (the closure in kids).
-/
import Derived.Test.YtjddnchenhnemaaGreatDoorPsE
import Derived.Test.YtjddnchenhnemaaGreatDoorAnyX
import Derived.Test.YtjddnchenhnemaaGreatDoorSl1
import Derived.Deep.Upon
namespace Go.Proofs.YtjddnchenhnemaaGreatDoor.Ps
open Go Go.RowKit Go.Proofs.YtjddnchenhnemaaGreatDoor.QT Go.Proofs.YtjddnchenhnemaaGreatDoor.Rg Go.Proofs.YtjddnchenhnemaaGreatDoor.Ma Go.Proofs.YtjddnchenhnemaaGreatDoor.Ir Go.Proofs.YtjddnchenhnemaaGreatDoor.Pm Go.Proofs.YtjddnchenhnemaaGreatDoor.Le
set_option maxHeartbeats 4000000
set_option maxRecDepth 100000
/-- But for blocks g and l nothing that was there turns. -/
structure Only2 (g l : Nat) (W W' : World) : Prop where
  os : W'.os = W.os
  tape : W'.tape = W.tape
  output : W'.output = W.output
  size : W.heap.size ≤ W'.heap.size
  block : ∀ k, k < W.heap.size → k ≠ g → k ≠ l → W'.heap[k]? = W.heap[k]?
/-- A tree is read: from a token's number to another one. -/
def ReadsTo (E : Env) (n : Xn) (j d : Nat) (W : World) (e : Ending) (W' : World) : Prop := ∃ c : List Value, e = .returned (.agg c.toArray) ∧ n.Held W' (From W.heap.size) c ∧ PS E W' j d ∧ Only E.g W W'
theorem infoX3 : (Tryz.prog.info? 42).map (fun i => (i.zero, i.size, i.bytes)) = some (some (.agg xz.toArray), 17, 224) := by kernel_rfl
def KidPost (E : Env) (n : Xn) (j d lb : Nat) (W : World) (e : Ending) (W' : World) : Prop :=
  e = .returned (.tuple #[]) ∧ PS E W' j d ∧ Only2 E.g lb W W' ∧ ∃ gg cap c, W'.heap[lb]? = some (.cells #[.slice (some ⟨gg, 0, none⟩) 1 cap] 40 (0, 0)) ∧ W.heap.size ≤ gg ∧ W'.rangeAt gg 0 c ∧ n.Held W' (From W.heap.size) c
/-- What holds when both the argument and the new element are there. -/
structure Mid (E : Env) (n : Xn) (j d : Nat) (c : List Value) (z : Nat) (W w : World) : Prop where
  ps : PS E w j d
  on : Only E.g W w
  held : n.Held w (From W.heap.size) c
  zero : w.heap[z]? = some (.cells xz.toArray 42 (0, 0))
theorem tape_setCells : ∀ (cs : List Value) (b o : Nat) (w : World), (w.setCells b o cs).tape = w.tape
  | [], _, _, _ => rfl
  | v :: cs, b, o, w => by rw [World.setCells, tape_setCells cs]; rfl
theorem there_set {w : World} {b o n l : Nat} {v : Value} (h : w.there b o n) (hne : l ≠ b) : (w.setCell ⟨l, 0, none⟩ v).there b o n := fun j hj => by
  have hk := Below.heap_setCell w ⟨l, 0, none⟩ v b hne.symm
  exact ⟨by rw [World.cell?_of_block (a := ⟨b, o + j, none⟩) hk]; exact (h j hj).1, by rw [World.frozen?_of_block (a := ⟨b, o + j, none⟩) hk]; exact (h j hj).2⟩
theorem setCells_only {W w : World} {g b : Nat} (h : Only g W w) (hb : W.heap.size ≤ b) (o : Nat) (cs : List Value) : Only g W (w.setCells b o cs) :=
  ⟨(World.os_setCells _ _ _ _).trans h.os, by
    have : ∀ (cs : List Value) (o : Nat) (w : World), (w.setCells b o cs).tape = w.tape := by
      intro cs
      induction cs with
      | nil => intro o w; rfl
      | cons v cs ih => intro o w; rw [World.setCells, ih]; rfl
    rw [this]; exact h.tape, (World.output_setCells _ _ _ _).trans h.output, by
    have : ∀ (cs : List Value) (o : Nat) (w : World), (w.setCells b o cs).heap.size = w.heap.size := by
      intro cs
      induction cs with
      | nil => intro o w; rfl
      | cons v cs ih => intro o w; rw [World.setCells, ih]; simp [World.setCell]
    rw [this]; exact h.size, fun k hk hg => (World.heap_setCells_other _ _ _ _ (Nat.lt_of_lt_of_le hk h.size) (by omega)).trans (h.block k hk hg)⟩
theorem size_setCells' : ∀ (cs : List Value) (b o : Nat) (w : World), (w.setCells b o cs).heap.size = w.heap.size
  | [], _, _, _ => rfl
  | v :: cs, b, o, w => by rw [World.setCells, size_setCells' cs]; simp [World.setCell]
theorem setCell_same {w : World} {b : Nat} (v : Value) {k : Nat} (hk : k ≠ b) (i : Nat) : (w.setCell ⟨b, i, none⟩ v).heap[k]? = w.heap[k]? := Below.heap_setCell w ⟨b, i, none⟩ v k hk
/-- The end of it, in either order of the two stores. -/
theorem kid_end {E : Env} {n : Xn} {j d z lb gg cap : Nat} {c : List Value} {W w5 w6 w7 : World} (hM : Mid E n j d c z W w5) (hl : W.heap[lb]? = some (.cells #[.slice none 0 0] 40 (0, 0)))
    (hlt : lb < W.heap.size) (hlg : lb ≠ E.g) (hE : E.g < W.heap.size) (hgrow : w5.grownBy w6 none) (hgg : gg = w5.heap.size) (hgl : gg < w6.heap.size)
    (hos : w7.os = w6.os) (htape : w7.tape = w6.tape) (hout : w7.output = w6.output) (hsize : w7.heap.size = w6.heap.size)
    (hblk : ∀ k, k < w6.heap.size → k ≠ gg → k ≠ lb → w7.heap[k]? = w6.heap[k]?) (hrow : w7.rangeAt gg 0 c) (hlb : w7.heap[lb]? = some (.cells #[.slice (some ⟨gg, 0, none⟩) 1 cap] 40 (0, 0))) :
    KidPost E n j d lb W (.returned (.tuple #[])) w7 := by
  subst hgg
  have s5 := hM.on.size
  have s6 := hgrow.size
  have hk5 : ∀ k, k < w5.heap.size → k ≠ lb → w7.heap[k]? = w5.heap[k]? := fun k hk hne => (hblk k (by omega) (by omega) hne).trans (hgrow.block k hk (by simp))
  refine ⟨rfl, ⟨(hk5 _ (by omega) hlg.symm).trans hM.ps.box, ?_, hM.ps.len, hM.ps.at_, hM.ps.dp⟩, ⟨hos.trans (hgrow.os.trans hM.on.os), htape.trans (hgrow.tape.trans hM.on.tape), hout.trans (hgrow.output.trans hM.on.output), by omega, fun k hk hg hl => (hk5 k (by omega) hl).trans (hM.on.block k hk hg)⟩, _, cap, c, hlb, by omega, hrow, ?_⟩
  · obtain ⟨h1, ao, cp, h2, h3⟩ := hM.ps.row
    refine ⟨h1, ao, cp, h2, fun h0 => ?_⟩
    obtain ⟨b, o, hF, ha, hr⟩ := h3 h0
    refine ⟨b, o, hF, ha, range_keep hr fun hb => hk5 b hb ?_⟩
    intro e
    subst e
    have h5 := (hM.on.block b hlt hlg).trans hl
    have hj : 0 < (tcells E.ts).length := by rw [h1]; omega
    have h6 := hr 0 _ (List.getElem?_eq_getElem hj)
    by_cases h1 : 1 < (tcells E.ts).length
    · have h7 := hr 1 _ (List.getElem?_eq_getElem h1)
      rw [blk_cell h5] at h6 h7
      by_cases ho : o + 1 = 0
      · omega
      · have : (#[Value.slice none 0 0])[o + 1]? = none := by simp
        rw [this] at h7; cases h7
    · rw [tcells_length] at h1; omega
  · exact Xn.Held.keep (fun b hb hlt5 => ⟨hk5 b hlt5 (by have : W.heap.size ≤ b := hb; omega), hb⟩) n hM.held
/-- A slice of one element, at a step of a region that draws. -/
theorem step_slice1 {P : Program} {ops : Array Oper} {o : Oper} {a : Act} {w : World} {K : Act → World → Prop} {Q : Exit → Act → World → Prop} {E : Prop} (hgd : o.guard = none) (t e : TypeId) (s : Nat) (z : Value) (x : Operand) (ho : o.op = .buildSlice t 1 #[(0, x)])
    (cs : Array Value) (hx : a.eval x = .agg cs) (hu : P.underlying t = some (.slice e)) (hi : (P.info? e).map (fun i => (i.zero, i.size)) = some (some z, s)) (hs : 0 < s) (hs2 : s ≤ 2 ^ 24) (hc : cs.size = s)
    (h : K (a.put o.dst (.slice (some ⟨w.heap.size, 0, none⟩) 1 1)) (w.alloc (.cells cs e))) : if Region.wanted o (yielded ops a.tmps) = true then Oper.wp P o a w K Q else E := by
  have hw : Region.wanted o (yielded ops a.tmps) = true := by simp [Region.wanted, hgd]
  rw [if_pos hw]
  exact Sl.wp_slice1 t e s z x ho cs hx hu hi hs hs2 hc h
end Go.Proofs.YtjddnchenhnemaaGreatDoor.Ps
