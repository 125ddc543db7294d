/-
  Compile, told for any text.
-/
import Derived.Test.YtnbgigdloehbjaaGreatDoorRgM
namespace Go.Proofs.YtnbgigdloehbjaaGreatDoor.Rg
open Go Go.RowKit

/-- s is a pattern; p is its program. -/
structure Made (W : World) (p : Nat) (s : ByteArray) : Prop where
  ok : errOf s = 0
  prog : IsProg W p (progOf s)
theorem Made.below {W W' : World} {p : Nat} {s : ByteArray} (h : Made W p s) (hb : Below W.heap.size W W') : Made W' p s := ⟨h.ok, h.prog.below hb⟩
def CompPost (W : World) (s : ByteArray) (e : Ending) (W' : World) : Prop :=
  Below W.heap.size W W' ∧ ((errOf s = 0 → ∃ p, e = .returned (.tuple #[.pointer (some ⟨p, 0, none⟩), .int .i64 0, .int .i64 0]) ∧ Made W' p s) ∧
    (errOf s ≠ 0 → e = .returned (.tuple #[.pointer none, .int .i64 (badOf s), .int .i64 (errOf s)])))
theorem comp_calls (s : ByteArray) (hs : s.size ≤ maxLen) (W : World) : Calls Tryz.prog 81 #[.string s] W (CompPost W s) := by
  by_cases h : s.size ≤ 4096
  · refine (compile_short s W h).mono ?_
    intro e W' hp
    by_cases h0 : errOf s = 0
    · obtain ⟨p, he, hpr, hb, _⟩ := hp.1 h0
      exact ⟨hb, fun _ => ⟨p, he, h0, hpr⟩, fun h1 => absurd h0 h1⟩
    · obtain ⟨he, hb⟩ := hp.2 h0
      exact ⟨hb, fun h1 => absurd h1 h0, fun _ => he⟩
  · refine (compile_long s W (by omega) hs).mono ?_
    intro e W' hp
    exact ⟨hp.2, fun h1 => (by rw [errOf, if_pos (by omega)] at h1; cases h1), fun _ => hp.1⟩
theorem comp_good {s : ByteArray} (h0 : errOf s = 0) (W : World) (hs : s.size ≤ maxLen) : Calls Tryz.prog 81 #[.string s] W fun e W' => ∃ p, e = .returned (.tuple #[.pointer (some ⟨p, 0, none⟩), .int .i64 0, .int .i64 0]) ∧ Made W' p s ∧ Below W.heap.size W W' :=
  (comp_calls s hs W).mono fun _ _ hp => by obtain ⟨p, he, hm⟩ := hp.2.1 h0; exact ⟨p, he, hm, hp.1⟩
theorem comp_bad {s : ByteArray} {a b : Nat} (h0 : errOf s = a) (h1 : badOf s = b) (hn : a ≠ 0) (W : World) (hs : s.size ≤ maxLen) : Calls Tryz.prog 81 #[.string s] W fun e W' => e = .returned (.tuple #[.pointer none, .int .i64 b, .int .i64 a]) ∧ Below W.heap.size W W' :=
  (comp_calls s hs W).mono fun _ _ hp => by subst h0; subst h1; exact ⟨hp.2.2 hn, hp.1⟩
theorem after {N : Nat} {W w w' : World} (h : Below N W w) (hN : N ≤ W.heap.size) (k : Below w.heap.size w w') : Below N W w' := h.trans (k.mono (Nat.le_trans hN h.size))
end Go.Proofs.YtnbgigdloehbjaaGreatDoor.Rg
