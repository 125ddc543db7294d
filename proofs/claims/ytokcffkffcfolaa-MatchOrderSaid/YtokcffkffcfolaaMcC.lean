/-
  Rows of matchers, of labels, that came in.
-/
import Derived.Test.YtokcffkffcfolaaMcB
import Derived.Deep.Slices
import Derived.Deep.Strs
import Derived.Deep.Fields
import Derived.ChangeSame
namespace Go.Proofs.Ytokcffkffcfolaa.Ma
open Go Go.ChangeShapes Go.WideShapes Go.Deep Go.RowKit

theorem list_of {α : Type} (P : Nat → α → Prop) : ∀ n : Nat, (∀ i, i < n → ∃ x, P i x) → ∃ l : List α, l.length = n ∧ ∀ i x, l[i]? = some x → P i x
  | 0, _ => ⟨[], rfl, fun i x h => by simp at h⟩
  | n + 1, h => by
    obtain ⟨l, hl, hp⟩ := list_of P n fun i hi => h i (by omega)
    obtain ⟨x, hx⟩ := h n (by omega)
    refine ⟨l ++ [x], by simp [hl], fun i y hi => ?_⟩
    by_cases hlt : i < l.length
    · rw [List.getElem?_append_left hlt] at hi; exact hp i y hi
    · have := (List.getElem?_eq_some_iff.1 hi).1
      simp at this
      obtain rfl : i = l.length := by omega
      simp at hi
      subst hi
      rw [hl]; exact hx
section
variable {H : Type} {enc : TypeId × Value → H} {W : World} {fuel : Nat} {x : DataW H × List MemPlace} {ao : Option Addr} {al ac : Nat}
set_option maxRecDepth 100000 in
theorem open_rowM (h : DataW.trod enc Try.prog W 0 (fun _ => true) true fuel 50 [.slice ao al ac] = some x) : ∃ l : List Mr, l.length ≤ maxLen ∧ RowM W (.slice ao al ac) l := by
  have hC : Try.prog.cellsOf 48 = 3 := by kernel_rfl
  rcases open_slice Try.underlying50 h with ⟨hcs, _⟩ | ⟨a, len, cap, m, n, D, Pl, hcs, _, hl, hm, hmm, _, hi⟩
  · simp only [List.cons.injEq, Value.slice.injEq, and_true] at hcs
    obtain ⟨rfl, rfl, rfl⟩ := hcs
    exact ⟨[], Nat.zero_le _, ⟨none, 0, rfl, fun h => by simp at h⟩⟩
  · simp only [List.cons.injEq, Value.slice.injEq, and_true] at hcs
    obtain ⟨rfl, rfl, rfl⟩ := hcs
    simp only [if_true] at hmm
    subst hmm
    have key : ∀ i, i < al → ∃ m : Mr, W.cell? (a.add (i * 3)) = some (.int .i64 m.kind) ∧ W.cell? (a.add (i * 3 + 1)) = some (.string m.name) ∧ W.cell? (a.add (i * 3 + 2)) = some (.string m.value) := fun i hil => by
      obtain ⟨cs', h1, h2⟩ := hi i (by omega)
      rw [hC] at h1
      obtain ⟨_, hlen, hat⟩ := World.cells?_some h1
      obtain ⟨y0, y1, y2, k, _, _, g0, g1, g2⟩ := trod_struct3 Try.underlying48 h2
      match cs', hlen with
      | [u0, u1, u2], _ =>
        have c0 := hat 0 (by omega)
        have c1 := hat 1 (by omega)
        have c2 := hat 2 (by omega)
        rw [Go.Deep.add_add] at c0 c1 c2
        obtain ⟨z, e0, _⟩ := DataW.trod_int (k := .i64) Try.underlying3 g0
        obtain ⟨s, e1, _⟩ := DataW.trod_string Try.underlying9 g1
        obtain ⟨t, e2, _⟩ := DataW.trod_string Try.underlying9 g2
        have k0 : ([u0, u1, u2].drop 0).take 1 = [Value.int .i64 z] := e0
        have k1 : ([u0, u1, u2].drop 1).take 1 = [Value.string s] := e1
        have k2 : ([u0, u1, u2].drop 2).take 1 = [Value.string t] := e2
        simp at k0 k1 k2
        subst k0 k1 k2
        exact ⟨⟨z, s, t⟩, c0, c1, c2⟩
    obtain ⟨l, hll, hp⟩ := list_of (fun i (m : Mr) => W.cell? (a.add (i * 3)) = some (.int .i64 m.kind) ∧ W.cell? (a.add (i * 3 + 1)) = some (.string m.name) ∧ W.cell? (a.add (i * 3 + 2)) = some (.string m.value)) al key
    refine ⟨l, by omega, ⟨some a, _, by rw [hll], fun h0 => ?_⟩⟩
    obtain ⟨b, o, sp⟩ := a
    obtain ⟨m0, hm0⟩ : ∃ m, l[0]? = some m := ⟨_, List.getElem?_eq_getElem h0⟩
    have hsp : sp = none := by simpa [Addr.add] using World.cell?_spot (hp 0 m0 hm0).1
    subst hsp
    refine ⟨b, o, rfl, fun i m hi => ?_⟩
    obtain ⟨p0, p1, p2⟩ := hp i m hi
    rw [Addr.add_mid] at p0 p1 p2
    exact ⟨p0, by rw [Nat.add_assoc]; exact p1, by rw [Nat.add_assoc]; exact p2⟩
set_option maxRecDepth 100000 in
theorem open_rowL (h : DataW.trod enc Try.prog W 0 (fun _ => true) true fuel 54 [.slice ao al ac] = some x) : ∃ l : List Lb, l.length ≤ maxLen ∧ RowL W (.slice ao al ac) l := by
  have hC : Try.prog.cellsOf 90 = 2 := by kernel_rfl
  rcases open_slice Try.underlying54 h with ⟨hcs, _⟩ | ⟨a, len, cap, m, n, D, Pl, hcs, _, hl, hm, hmm, _, hi⟩
  · simp only [List.cons.injEq, Value.slice.injEq, and_true] at hcs
    obtain ⟨rfl, rfl, rfl⟩ := hcs
    exact ⟨[], Nat.zero_le _, ⟨none, 0, rfl, fun h => by simp at h⟩⟩
  · simp only [List.cons.injEq, Value.slice.injEq, and_true] at hcs
    obtain ⟨rfl, rfl, rfl⟩ := hcs
    simp only [if_true] at hmm
    subst hmm
    have key : ∀ i, i < al → ∃ m : Lb, W.cell? (a.add (i * 2)) = some (.string m.name) ∧ W.cell? (a.add (i * 2 + 1)) = some (.string m.value) := fun i hil => by
      obtain ⟨cs', h1, h2⟩ := hi i (by omega)
      rw [hC] at h1
      obtain ⟨_, hlen, hat⟩ := World.cells?_some h1
      obtain ⟨y0, y1, k, _, _, g0, g1⟩ := trod_struct2 Try.underlying90 h2
      match cs', hlen with
      | [u0, u1], _ =>
        have c0 := hat 0 (by omega)
        have c1 := hat 1 (by omega)
        rw [Go.Deep.add_add] at c0 c1
        obtain ⟨s, e1, _⟩ := DataW.trod_string Try.underlying9 g0
        obtain ⟨t, e2, _⟩ := DataW.trod_string Try.underlying9 g1
        have k1 : ([u0, u1].drop 0).take 1 = [Value.string s] := e1
        have k2 : ([u0, u1].drop 1).take 1 = [Value.string t] := e2
        simp at k1 k2
        subst k1 k2
        exact ⟨⟨s, t⟩, c0, c1⟩
    obtain ⟨l, hll, hp⟩ := list_of (fun i (m : Lb) => W.cell? (a.add (i * 2)) = some (.string m.name) ∧ W.cell? (a.add (i * 2 + 1)) = some (.string m.value)) al key
    refine ⟨l, by omega, ⟨some a, _, by rw [hll], fun h0 => ?_⟩⟩
    obtain ⟨b, o, sp⟩ := a
    obtain ⟨m0, hm0⟩ : ∃ m, l[0]? = some m := ⟨_, List.getElem?_eq_getElem h0⟩
    have hsp : sp = none := by simpa [Addr.add] using World.cell?_spot (hp 0 m0 hm0).1
    subst hsp
    refine ⟨b, o, rfl, fun i m hi => ?_⟩
    obtain ⟨p0, p1⟩ := hp i m hi
    rw [Addr.add_mid] at p0 p1
    exact ⟨p0, by rw [Nat.add_assoc]; exact p1⟩
end
end Go.Proofs.Ytokcffkffcfolaa.Ma
