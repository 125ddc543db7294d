/-
  Appending a row of strings, maybe none, onto a row of the call's own.
-/
import Derived.Test.YtjddnchenhnemaaGreatDoorPsX
import Derived.Deep.AppendSrc
import Derived.Deep.Upon
namespace Go.Proofs.YtjddnchenhnemaaGreatDoor.Ps
open Go Go.RowKit Go.Proofs.YtjddnchenhnemaaGreatDoor.QT Go.Proofs.YtjddnchenhnemaaGreatDoor.Rg Go.Proofs.YtjddnchenhnemaaGreatDoor.Ma Go.Proofs.YtjddnchenhnemaaGreatDoor.Ir
set_option maxHeartbeats 4000000
set_option maxRecDepth 100000
theorem run_appR {w : World} {B : Nat} {v : Value} {N : Nat} {l : List ByteArray} (h : w.ownsRow B 9 1 v N (scells l)) (hB : B ≤ w.heap.size) (x : Value) (new : List ByteArray) {F : Nat → Prop} (hx : Row w F x new.length 1 (scells new)) (hN : N + new.length ≤ 1000) (ty : TypeId) :
    ∃ v' w', (Builtin.append_ #[31, 31] ty #[v, x]).run Tryz.prog w = .ok v' w' ∧ w'.ownsRow B 9 1 v' (N + new.length) (scells (l ++ new)) ∧ w.grownBy w' v.ownBlock := by
  obtain ⟨i0, hi0, hz0, hz1, hz2⟩ := info_parts infoS
  obtain ⟨hl, ao, cap, rfl, hc⟩ := hx
  have happ : scells (l ++ new) = scells l ++ scells new := by simp [scells]
  by_cases h0 : 0 < new.length
  · obtain ⟨b, o, _, rfl, hr⟩ := hc h0
    obtain ⟨v', w', h1, h2, h3, -, -⟩ := run_append_own_at (P := Tryz.prog) w B 31 ty 9 i0 (.string ⟨#[]⟩) 1 16 Tryz.underlying31 hi0 hz0 hz1 hz2 rfl (by decide) v N (scells l) h ⟨b, o, none⟩ new.length cap (scells new) hl
      (fun j u hj => by rw [Addr.add_lit]; exact hr j u hj) (strs_one _) (by unfold maxLen; omega) (by omega) hB
    exact ⟨v', w', h1, by rw [happ]; exact h2, h3⟩
  · obtain rfl : new = [] := List.length_eq_zero_iff.1 (by omega)
    have hs : Src Tryz.prog i0.size 31 (.slice ao 0 cap) 0 [] w := by
      cases ao with
      | none => exact Src.ofNil w (e' := 9) Tryz.underlying31 cap
      | some a => exact Src.ofSlice w (e' := 9) Tryz.underlying31 a 0 cap [] (by simp) (fun j u hj => by simp at hj) (fun u hu => by simp at hu)
    have hsame : w.grownBy w v.ownBlock := ⟨rfl, rfl, rfl, Nat.le_refl _, fun _ _ _ => rfl⟩
    refine ⟨v, w, ?_, by rw [happ]; simpa [scells] using h, hsame⟩
    rcases h.2 with ⟨h1, h2⟩ | ⟨g, cap', cur, h1, h2, h3, h4, h5, h6, h7⟩
    · rw [h1]; exact run_append_nothing w _ _ ty 9 i0 Tryz.underlying31 hi0 none 0 0 (Nat.le_refl _) _ hs
    · rw [h1]; exact run_append_nothing w _ _ ty 9 i0 Tryz.underlying31 hi0 _ _ _ (by omega) _ hs
theorem wp_appR {o : Oper} {a : Act} {w : World} {K : Act → World → Prop} {Q : Exit → Act → World → Prop} (s xo : Operand)
    (ho : o.op = .call { callee := .builtin .append, args := #[s, xo], argTypes := #[31, 31] })
    {B : Nat} {v : Value} {N : Nat} {l : List ByteArray} (hs : a.eval s = v) (h : w.ownsRow B 9 1 v N (scells l)) (hB : B ≤ w.heap.size) (x : Value) (hxo : a.eval xo = x) (new : List ByteArray) {F : Nat → Prop} (hx : Row w F x new.length 1 (scells new)) (hN : N + new.length ≤ 1000)
    (hk : ∀ v' w', w'.ownsRow B 9 1 v' (N + new.length) (scells (l ++ new)) → w.grownBy w' v.ownBlock → K (a.put o.dst v') w') : o.wp Tryz.prog a w K Q := by
  obtain ⟨v', w', hr, h2, h3⟩ := run_appR h hB x new hx hN o.type
  unfold Oper.wp execOp
  simp only [ho, resolve, invoke, builtin, Sem.run_bind, Sem.run_pure, Result.andThen_ok, List.map_toArray, List.map_cons, List.map_nil, hs, hxo, hr]
  exact hk v' w' h2 h3
theorem wpList_appR {ops : Array Oper} {rest : List Oper} {o : Oper} {a : Act} {w : World} {Q : Exit → Act → World → Prop} (hgd : o.guard = none) (s xo : Operand)
    (ho : o.op = .call { callee := .builtin .append, args := #[s, xo], argTypes := #[31, 31] })
    {B : Nat} {v : Value} {N : Nat} {l : List ByteArray} (hs : a.eval s = v) (h : w.ownsRow B 9 1 v N (scells l)) (hB : B ≤ w.heap.size) (x : Value) (hxo : a.eval xo = x) (new : List ByteArray) {F : Nat → Prop} (hx : Row w F x new.length 1 (scells new)) (hN : N + new.length ≤ 1000)
    (hk : ∀ v' w', w'.ownsRow B 9 1 v' (N + new.length) (scells (l ++ new)) → w.grownBy w' v.ownBlock → wpList Tryz.prog ops Q rest (a.put o.dst v') w') : wpList Tryz.prog ops Q (o :: rest) a w :=
  wpList_plain hgd fun _ hK => wp_appR s xo ho hs h hB x hxo new hx hN fun v' w' h2 h3 => hK _ _ (hk v' w' h2 h3)
theorem step_appR {ops : Array Oper} {o : Oper} {a : Act} {w W0 : World} {K : Act → World → Prop} {Q : Exit → Act → World → Prop} {E : Prop} (hgd : o.guard = none) (s xo : Operand)
    (ho : o.op = .call { callee := .builtin .append, args := #[s, xo], argTypes := #[31, 31] })
    {v : Value} {N : Nat} {l : List ByteArray} (hs : a.eval s = v) (hb : Below W0.heap.size W0 w) (h : w.ownsRow W0.heap.size 9 1 v N (scells l)) (x : Value) (hxo : a.eval xo = x) (new : List ByteArray) {F : Nat → Prop} (hx : Row w F x new.length 1 (scells new)) (hN : N + new.length ≤ 1000)
    (hk : ∀ v' w', w'.ownsRow W0.heap.size 9 1 v' (N + new.length) (scells (l ++ new)) → w.grownBy w' v.ownBlock → Below W0.heap.size W0 w' → K (a.put o.dst v') w') : if Region.wanted o (yielded ops a.tmps) = true then Oper.wp Tryz.prog o a w K Q else E := by
  have hw : Region.wanted o (yielded ops a.tmps) = true := by simp [Region.wanted, hgd]
  rw [if_pos hw]
  exact wp_appR s xo ho hs h hb.size x hxo new hx hN fun v' w' h2 h3 => hk v' w' h2 h3 (hb.grown h3 hb.size (fun k hk => (h.lt k hk).1))
theorem own_e1 {w : World} {B H : Nat} (hB : B ≤ w.heap.size) (hH : w.heap.size = H) : (w.alloc (.cells #[] 9)).ownsRow B 9 1 (.slice (some ⟨H, 0, none⟩) 0 0) 0 (scells []) := by
  subst hH
  exact World.ownsRow_made w #[] 0 hB (by decide) rfl
theorem row_new1 {w : World} {t : ByteArray} {H : Nat} (hH : w.heap.size = H) : Row (w.alloc (.cells #[.string t] 9)) Any (.slice (some ⟨H, 0, none⟩) 1 1) [t].length 1 (scells [t]) := by
  subst hH
  exact ⟨rfl, _, _, rfl, fun _ => ⟨_, 0, trivial, rfl, range_blk (c := scells [t]) (blk_new w _)⟩⟩
theorem row_ii {w w' : World} {t : ByteArray} {v : Value} (hg : ((w.alloc (.cells #[.string t] 9)).alloc (.cells #[] 9)).drew.grownBy w' v.ownBlock) (hv : v = .slice (some ⟨w.heap.size + 1, 0, none⟩) 0 0) : Row w' Any (.slice (some ⟨w.heap.size, 0, none⟩) 1 1) [t].length 1 (scells [t]) := by
  subst hv
  refine ⟨rfl, _, _, rfl, fun _ => ⟨_, 0, trivial, rfl, range_blk (c := scells [t]) ((hg.block w.heap.size (by simp; omega) (by simp [Value.ownBlock])).trans (blk_alloc (blk_new w _) _))⟩⟩
theorem row_iii {w w' : World} {t : ByteArray} {v : Value} (hg : ((w.alloc (.cells #[] 9)).alloc (.cells #[.string t] 9)).drew.grownBy w' v.ownBlock) (hv : v = .slice (some ⟨w.heap.size, 0, none⟩) 0 0) : Row w' Any (.slice (some ⟨w.heap.size + 1, 0, none⟩) 1 1) [t].length 1 (scells [t]) := by
  subst hv
  refine ⟨rfl, _, _, rfl, fun _ => ⟨_, 0, trivial, rfl, range_blk (c := scells [t]) ((hg.block (w.heap.size + 1) (by simp) (by simp [Value.ownBlock])).trans (blk_new2 w _ _))⟩⟩
end Go.Proofs.YtjddnchenhnemaaGreatDoor.Ps
