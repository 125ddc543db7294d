/-
  Compile, told for any text; what is known of one pattern.
-/
import Derived.Test.YtokcffkffcfolaaRgX
namespace Go.Proofs.Ytokcffkffcfolaa.Rg
open Go Go.RowKit

/-- s is a pattern; p is its program. -/
structure Made (W : World) (p : Nat) (s : ByteArray) : Prop where
  ok : errOf s = 0
  prog : IsProg W p (progOf s)
theorem Made.below {W W' : World} {p : Nat} {s : ByteArray} (h : Made W p s) (hb : Below W.heap.size W W') : Made W' p s := ⟨h.ok, h.prog.below hb⟩
theorem progOf_length (s : ByteArray) (hs : s.size ≤ 4096) : (progOf s).length ≤ 2 * s.size + 1 := by
  have hg := (read_nxt s).good (start_good s hs)
  have hlt : (read s).s = s := (read_nxt s).s
  have h1 := hg.len
  have h2 := hg.top
  rw [hlt] at h2
  have h3 : (readEnd s).l = (read s).l := by
    unfold readEnd
    split
    · exact (Rd.fail_ext _ _ _).l
    · rfl
  rw [progOf, List.length_append, h3]
  simp; omega
def CompPost (W : World) (s : ByteArray) (e : Ending) (W' : World) : Prop :=
  Below W.heap.size W W' ∧ ((errOf s = 0 → ∃ p, e = .returned (.tuple #[.pointer (some ⟨p, 0, none⟩), .int .i64 0, .int .i64 0]) ∧ Made W' p s) ∧
    (errOf s ≠ 0 → e = .returned (.tuple #[.pointer none, .int .i64 (badOf s), .int .i64 (errOf s)])))
theorem comp_calls (s : ByteArray) (hs : s.size ≤ maxLen) (W : World) : Calls Try.prog 12 #[.string s] W (CompPost W s) := by
  by_cases h : s.size ≤ 4096
  · refine (compile_short s W h).mono ?_
    intro e W' hp
    by_cases h0 : errOf s = 0
    · obtain ⟨p, he, hpr, hb, _⟩ := hp.1 h0
      exact ⟨hb, fun _ => ⟨p, he, h0, hpr⟩, fun h1 => absurd h0 h1⟩
    · obtain ⟨he, hb⟩ := hp.2 h0
      exact ⟨hb, fun h1 => absurd h1 h0, fun _ => he⟩
  · refine (compile_long s W (by omega) hs).mono ?_
    intro e W' hp
    exact ⟨hp.2, fun h1 => (by rw [errOf, if_pos (by omega)] at h1; cases h1), fun _ => hp.1⟩
theorem comp_good {s : ByteArray} (h0 : errOf s = 0) (W : World) (hs : s.size ≤ maxLen) : Calls Try.prog 12 #[.string s] W fun e W' => ∃ p, e = .returned (.tuple #[.pointer (some ⟨p, 0, none⟩), .int .i64 0, .int .i64 0]) ∧ Made W' p s ∧ Below W.heap.size W W' :=
  (comp_calls s hs W).mono fun _ _ hp => by obtain ⟨p, he, hm⟩ := hp.2.1 h0; exact ⟨p, he, hm, hp.1⟩
theorem comp_bad {s : ByteArray} {a b : Nat} (h0 : errOf s = a) (h1 : badOf s = b) (hn : a ≠ 0) (W : World) (hs : s.size ≤ maxLen) : Calls Try.prog 12 #[.string s] W fun e W' => e = .returned (.tuple #[.pointer none, .int .i64 b, .int .i64 a]) ∧ Below W.heap.size W W' :=
  (comp_calls s hs W).mono fun _ _ hp => by subst h0; subst h1; exact ⟨hp.2.2 hn, hp.1⟩
/-- Does the pattern s match b? -/
def matches_ (s b : ByteArray) : Bool := matchF (progOf s) b.data.toList
theorem Made.match_calls {W : World} {p : Nat} {s : ByteArray} (h : Made W p s) {b : ByteArray} {v : Bool} (hv : matches_ s b = v) (hb : b.size ≤ 140737488351232) :
    Calls Try.prog 13 #[.pointer (some ⟨p, 0, none⟩), .string b] W fun e W' => e = .returned (.bool v) ∧ Below W.heap.size W W' := by
  obtain ⟨hs, e, hG, hp⟩ := comp_sound h.ok
  have hl := progOf_length s hs
  subst hv
  exact (Rg.match_calls p (progOf s) (comp_match hG hp).1 (by omega) (by simp [progOf]) b hb W h.prog).mono fun _ _ h => h

theorem after {N : Nat} {W w w' : World} (h : Below N W w) (hN : N ≤ W.heap.size) (k : Below w.heap.size w w') : Below N W w' := h.trans (k.mono (Nat.le_trans hN h.size))
def kA : ByteArray := { data := #[97, 40, 98, 124, 99, 41, 42, 100] }
def kB : ByteArray := { data := #[97, 41] }
def kC : ByteArray := { data := #[97, 98, 99, 98, 100] }
def kD : ByteArray := { data := #[97, 98, 120] }
theorem kA_ok : errOf kA = 0 := by decide +kernel
theorem kB_err : errOf kB = 2 := by decide +kernel
theorem kB_bad : badOf kB = 1 := by decide +kernel
theorem kA_kC : matches_ kA kC = true := by decide +kernel
theorem kA_kD : matches_ kA kD = false := by decide +kernel

set_option maxRecDepth 100000 in
set_option maxHeartbeats 4000000 in
theorem known_calls (W : World) : Calls Try.prog 11 #[] W fun e W' => e = .returned (.bool true) ∧ Below W.heap.size W W' := by
  go_enter Try.func11, Try.ntmps11
  go_wp2_with fail
  refine (comp_good kA_ok _ (by decide)).mono ?_
  rintro q W1 ⟨p, rfl, hm1, hb1⟩
  have HM := Lib.hid hm1; clear hm1
  have HB := Lib.hid hb1; clear hb1
  go_wp2_with fail
  refine (comp_bad kB_err kB_bad (by decide) _ (by decide)).mono ?_
  rintro q W2 ⟨rfl, hb2⟩
  replace HM := Lib.hid (HM.out.below hb2)
  replace HB := Lib.hid (after HB.out (Nat.le_refl _) hb2); clear hb2
  go_wp2_with fail
  refine (HM.out.match_calls (b := kC) kA_kC (by decide)).mono ?_
  rintro q W3 ⟨rfl, hb3⟩
  replace HM := Lib.hid (HM.out.below hb3)
  replace HB := Lib.hid (after HB.out (Nat.le_refl _) hb3); clear hb3
  go_wp2_with fail
  refine (HM.out.match_calls (b := kD) kA_kD (by decide)).mono ?_
  rintro q W4 ⟨rfl, hb4⟩
  replace HM := Lib.hid (HM.out.below hb4)
  replace HB := Lib.hid (after HB.out (Nat.le_refl _) hb4); clear hb4
  go_wp2_with fail
  refine (escape_calls _ (by decide) _).mono ?_
  rintro q W5 ⟨rfl, hb5⟩
  rw [show (⟨(escL ({ data := #[97, 46, 98] } : ByteArray).data.toList).toArray⟩ : ByteArray) = { data := #[97, 92, 46, 98] } from rfl]
  replace HB := Lib.hid (after HB.out (Nat.le_refl _) hb5); clear hb5
  go_wp2_with fail
  go_ret
  exact ⟨rfl, HB.out⟩
end Go.Proofs.Ytokcffkffcfolaa.Rg
