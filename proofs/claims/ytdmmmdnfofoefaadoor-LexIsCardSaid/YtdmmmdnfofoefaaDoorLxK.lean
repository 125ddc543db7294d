/-
  What the lexer's statements ask first; LexIs' walk.
-/
import Derived.Test.YtdmmmdnfofoefaaDoorLxA
namespace Go.Proofs.YtdmmmdnfofoefaaDoor.Lx
open Go Go.RowKit Go.Proofs.YtdmmmdnfofoefaaDoor.QT Go.Proofs.YtdmmmdnfofoefaaDoor.Rg
set_option maxHeartbeats 8000000
set_option maxRecDepth 100000

def LawPost (W : World) : Ending → World → Prop := Gives (.bool true) W
theorem known_calls (W : World) (hT : Tabs W) : Calls Tryd.prog 4 #[] W (LawPost W) := by
  have HT := Lib.hid hT
  have q1 : (tGe.toList == [62, 61]) = true := by decide +kernel
  have o1 : FloatKind.f64.format.order 4654311885213007872 4654311885213007872 = some .eq := by decide +kernel
  clear hT
  go_enter Tryd.func4, Tryd.ntmps4
  go_wp2_with fail
  refine (all_L _ HT.out).mono ?_
  rintro e W1 ⟨v, rfl, hk⟩
  obtain ⟨g, cap, hv, h2, hcells, hlt⟩ : ∃ g cap, v = .slice (some ⟨g, 0, none⟩) 9 cap ∧ 9 ≤ cap ∧ (∀ j u, cellsL[j]? = some u → W1.cell? ⟨g, j, none⟩ = some u) ∧ g < W1.heap.size := by
    rcases hk.own.2 with ⟨_, h⟩ | ⟨g, cap, cur, h1, _, h3, h4, _, h6, h7⟩
    · cases h
    · refine ⟨g, cap, h1, h4, fun j u hj => ?_, blk_lt h3⟩
      rw [blk_cell h3 j, ← Array.getElem?_toList]
      have hj' : j < cellsL.length := (List.getElem?_eq_some_iff.1 hj).1
      have hj2 : j < 9 * 5 := hj'
      have h8 : (cur.toList.take (9 * 5))[j]? = cellsL[j]? := by rw [h7]
      rw [List.getElem?_take, if_pos hj2] at h8
      rw [h8, hj]
  subst hv
  have HC := Lib.hid hcells
  have HLT := Lib.hid hlt
  have HB1 := Lib.hid hk.bel
  clear hcells hlt hk
  go_wp2_with fail
  refine (all_M _).mono ?_
  rintro e W2 ⟨rfl, hb⟩
  have c20 : W2.cell? ⟨g, 20, none⟩ = some (.int .i64 3) := (hb.cell (p := ⟨g, _, none⟩) HLT.out).trans (HC.out 20 _ rfl)
  have c24 : W2.cell? ⟨g, 24, none⟩ = some (.int .i64 300000) := (hb.cell (p := ⟨g, _, none⟩) HLT.out).trans (HC.out 24 _ rfl)
  have c37 : W2.cell? ⟨g, 37, none⟩ = some (.string tGe) := (hb.cell (p := ⟨g, _, none⟩) HLT.out).trans (HC.out 37 _ rfl)
  have c43 : W2.cell? ⟨g, 43, none⟩ = some (.float .f64 4654311885213007872) := (hb.cell (p := ⟨g, _, none⟩) HLT.out).trans (HC.out 43 _ rfl)
  have HB2 := Lib.hid (HB1.out.trans (hb.mono HB1.out.size))
  clear hb
  go_wp2_with fail
  go_ret
  exact ⟨rfl, HB2.out⟩
theorem is_calls (k : Int) (s t : ByteArray) (W : World) (hT : Tabs W) : Calls Tryd.prog 3 #[.int .i64 k, .string s, .string t] W (LawPost W) := by
  have HK := Lib.hid (known_calls W hT)
  clear hT
  go_enter Tryd.func3, Tryd.ntmps3
  go_wp2_with fail
  refine HK.out.mono ?_
  rintro e W1 ⟨rfl, hb⟩
  have HB := Lib.hid hb
  clear hb
  by_cases h1 : 2000 < s.size
  · go_wp2_with fail
    go_ret
    exact ⟨rfl, HB.out⟩
  by_cases h2 : 2000 < t.size
  · go_wp2_with fail
    go_ret
    exact ⟨rfl, HB.out⟩
  go_wp2_with (go_at_call 5; go_in)

  all_goals (go_ret; exact ⟨rfl, HB.out.alloc HB.out.size _⟩)
end Go.Proofs.YtdmmmdnfofoefaaDoor.Lx
