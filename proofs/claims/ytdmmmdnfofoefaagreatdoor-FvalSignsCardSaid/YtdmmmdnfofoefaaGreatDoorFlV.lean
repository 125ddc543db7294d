/-
  Text of the value 2.5: the digits are laid out.
-/
import Derived.Test.YtdmmmdnfofoefaaGreatDoorFlU
import Derived.Test.YtdmmmdnfofoefaaGreatDoorBaA
namespace Go.Proofs.YtdmmmdnfofoefaaGreatDoor.Fl
open Go Go.RowKit Go.Proofs.YtdmmmdnfofoefaaGreatDoor.Rg
set_option maxHeartbeats 4000000
set_option maxRecDepth 100000

/-- A row of bytes of one's own, beside the block of the digits. -/
structure Dst (W wr : World) (b : Nat) (v : Value) (N : Nat) (l : List UInt8) : Prop where
  own : wr.ownsRow W.heap.size 5 1 v N (u8s l)
  len : l.length = N
  bel : Below W.heap.size W wr
  row : Row25 wr b
  ne : some b ≠ v.ownBlock
  lt : b < wr.heap.size
theorem u8s_one (l : List UInt8) : ∀ u ∈ u8s l, u.oneCell' = true := by
  intro u hu
  simp only [u8s, List.mem_map] at hu
  obtain ⟨b, _, rfl⟩ := hu
  rfl
theorem wpList_dst {ops : Array Oper} {rest : List Oper} {o : Oper} {a : Act} {Q : Exit → Act → World → Prop} (hgd : o.guard = none) (s xo : Operand)
    (ho : o.op = .call { callee := .builtin .append, args := #[s, xo], argTypes := #[56, 56] })
    {W wr : World} {b : Nat} {v : Value} {N : Nat} {l : List UInt8} (h : Dst W wr b v N l) (c : UInt8) (ci : Int) (hci : ci = (c.toNat : Int)) (hN : N ≤ 1000)
    (hs : a.eval s = v) (hx : a.eval xo = .slice (some ⟨wr.heap.size, 0, none⟩) 1 1)
    (hk : ∀ g cap w', Dst W w' b (.slice (some ⟨g, 0, none⟩) (N + 1) cap) (N + 1) (l ++ [c]) → wpList Tryz.prog ops Q rest (a.put o.dst (.slice (some ⟨g, 0, none⟩) (N + 1) cap)) w') :
    wpList Tryz.prog ops Q (o :: rest) a (wr.alloc (.cells #[.int .u8 ci] 5)) := by
  subst hci
  obtain ⟨i0, hi0, hz0, hz1, hz2⟩ := info_parts infoU8
  have hsz := h.bel.size
  have hlt := h.lt
  refine wpList_append_lies _ hgd s xo 56 ho W.heap.size 5 i0 (.int .u8 0) 1 1 Tryz.underlying56 hi0 hz0 hz1 hz2 rfl (by decide) v N (u8s l) hs (h.own.alloc _) ⟨wr.heap.size, 0, none⟩ 1 1 (u8s [c]) hx (by rw [u8s_length]; rfl) (World.news_of_block (cs := (u8s [c]).toArray) (t := 5) (fr := (0, 0)) (blk_new _ _)) (u8s_one [c]) (by decide) (by unfold maxLen; omega) (by omega) (by simp; omega) (wr.heap.size + 1) (by simp) ?_
  intro g cap w' hown hgrow hat hlt'
  have hb0 : ∀ i, (wr.alloc (.cells #[.int .u8 (c.toNat : Int)] 5)).cell? ⟨b, i, none⟩ = wr.cell? ⟨b, i, none⟩ := fun i => ((Below.refl wr.heap.size wr).alloc (Nat.le_refl _) _).cell (p := ⟨b, i, none⟩) hlt
  refine hk g cap w' ⟨by rw [u8s_app]; exact hown, by rw [List.length_append, h.len]; rfl, (h.bel.alloc hsz _).grown hgrow (by simp; omega) (fun k hk => (h.own.lt k hk).1), ⟨?_, ?_⟩, ?_, ?_⟩
  · exact hgrow.cell ((hb0 0).trans h.row.c0) h.ne
  · exact hgrow.cell ((hb0 1).trans h.row.c1) h.ne
  · intro e
    have e' : b = g := by simpa [Value.ownBlock] using e
    subst e'
    rcases hat with hat | hat
    · exact h.ne hat.symm
    · omega
  · have := hgrow.size
    simp at this
    omega
def Told (W : World) (b : Nat) (e : Ending) (w' : World) : Prop := ∃ v, e = .returned v ∧ Dst W w' b v 3 [50, 46, 53]
theorem efg_calls (W wr : World) (b g : Nat) (h : Dst W wr b (.slice (some ⟨g, 0, none⟩) 0 24) 0 []) :
    Calls Tryz.prog 57 #[.slice (some ⟨g, 0, none⟩) 0 24, .bool false, .slice (some ⟨b, 0, none⟩) 32 32, .int .i64 1, .int .i64 2, .int .i64 2, .int .u8 103, .bool true] wr (Told W b) := by
  have HD := Lib.hid h
  have c0 := h.row.c0
  have x1 : max (1 : Int) 0 = 1 := rfl
  have x2 : max (0 : Int) (-1) = 0 := rfl
  have x3 : min (1 : Int) 0 = 0 := rfl
  have x4 : max (0 : Int) 1 = 1 := rfl
  have x5 : min (1 : Int) 1 = 1 := rfl
  have x6 : min (2 : Int) 1 = 1 := rfl
  have x7 : max (0 : Int) 0 = 0 := rfl
  clear h
  go_enter Tryz.func57, Tryz.ntmps57
  go_wp2
  refine wp_loop_rounds 2 ?_
  rw [rounds_succ]
  go_wp2_with (at_builtin; refine wpList_dst rfl (.tmp 195) (.tmp 197) rfl HD.out 50 _ rfl (by decide) rfl rfl ?_; intro g1 cap1 w1 hD1; have HD1 := Lib.hid hD1; clear hD1)
  rw [rounds_succ]
  go_wp2
  refine wp_loop_rounds 1 ?_
  rw [rounds_succ]
  go_wp2_with (at_builtin; refine wpList_dst rfl (.tmp 214) (.tmp 215) rfl HD1.out 46 _ rfl (by decide) rfl rfl ?_; intro g2 cap2 w2 hD2; have HD2 := Lib.hid hD2; have c1 := hD2.row.c1; clear hD2)
  refine wp_loop_rounds 1 ?_
  rw [rounds_succ]
  go_wp2
  refine wp_loop_rounds 2 ?_
  rw [rounds_succ]
  go_wp2_with (at_builtin; refine wpList_dst rfl (.tmp 250) (.tmp 257) rfl HD2.out 53 _ rfl (by decide) rfl rfl ?_; intro g3 cap3 w3 hD3; have HD3 := Lib.hid hD3; clear hD3 c1)
  rw [rounds_succ]
  go_wp2
  refine wp_loop_rounds 1 ?_
  rw [rounds_succ]
  go_wp2
  go_ret
  exact ⟨_, rfl, HD3.out⟩
end Go.Proofs.YtdmmmdnfofoefaaGreatDoor.Fl
