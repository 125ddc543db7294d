/-
  regex.Compile: a pattern's program, or where it is none.
-/
import Derived.Test.YtnbgigdloehbjaaGreatDoorRgL
namespace Go.Proofs.YtnbgigdloehbjaaGreatDoor.Rg
open Go Go.RowKit

theorem group_all : ∀ k, GroupC k
  | 0 => group_zero
  | k + 1 => group_succ k (alts_of k (pieces_of k (atom_of k (group_all k))))
theorem alts_all (k : Nat) : AltsC k := alts_of k (pieces_of k (atom_of k (group_all k)))

/-- The program l lies at block p. -/
def IsProg (W : World) (p : Nat) (l : List Inst) : Prop :=
  ∃ gg cap, W.heap[p]? = some (.cells #[.slice (some ⟨gg, 0, none⟩) l.length cap] 147 (0, 0)) ∧ W.ownsRow 0 145 7 (.slice (some ⟨gg, 0, none⟩) l.length cap) l.length (flat l)
theorem own_weak {w : World} {base base' e size : Nat} {v : Value} {n : Nat} {xs : List Value} (h : w.ownsRow base e size v n xs) (hb : base' ≤ base) : w.ownsRow base' e size v n xs := by
  refine ⟨h.1, ?_⟩
  rcases h.2 with hn | ⟨q, cap, cur, rfl, hq, rest⟩
  · exact .inl hn
  · exact .inr ⟨q, cap, cur, rfl, Nat.le_trans hb hq, rest⟩
theorem own_below {w w' : World} {base e size : Nat} {v : Value} {n : Nat} {xs : List Value} (h : w.ownsRow base e size v n xs) (hb : Below w.heap.size w w') : w'.ownsRow base e size v n xs := by
  refine ⟨h.1, ?_⟩
  rcases h.2 with hn | ⟨q, cap, cur, rfl, hq, hg, rest⟩
  · exact .inl hn
  · exact .inr ⟨q, cap, cur, rfl, hq, (hb.block q (blk_lt hg)).trans hg, rest⟩
theorem IsProg.below {W W' : World} {p : Nat} {l : List Inst} (h : IsProg W p l) (hb : Below W.heap.size W W') : IsProg W' p l := by
  obtain ⟨gg, cap, h1, h2⟩ := h
  exact ⟨gg, cap, (hb.block p (blk_lt h1)).trans h1, own_below h2 hb⟩

theorem start_good (s : ByteArray) (hs : s.size ≤ 4096) : Good (start s) := ⟨Nat.zero_le _, hs, Nat.zero_le _, fun x hx => by simp [start] at hx⟩
theorem read_nxt (s : ByteArray) : Nxt (start s) (read s) := Rd.alts_nxt (Rd.group 40) (Rd.group_nxt 40) (start s)

def CompOk (W : World) (s : ByteArray) (e : Ending) (W' : World) : Prop :=
  ∃ p, e = .returned (.tuple #[.pointer (some ⟨p, 0, none⟩), .int .i64 0, .int .i64 0]) ∧ IsProg W' p (progOf s) ∧ Below W.heap.size W W' ∧ W.heap.size ≤ p
def CompNo (W : World) (s : ByteArray) (e : Ending) (W' : World) : Prop :=
  e = .returned (.tuple #[.pointer none, .int .i64 (badOf s), .int .i64 (errOf s)]) ∧ Below W.heap.size W W'

theorem compile_long (s : ByteArray) (W : World) (h : 4096 < s.size) (hm : s.size ≤ maxLen) : Calls Tryz.prog 81 #[.string s] W (CompNo W s) := by
  unfold maxLen at hm
  have he : errOf s = 6 := if_pos h
  have hb : badOf s = 0 := if_pos h
  have HE := Lib.hid he; clear he
  have HB := Lib.hid hb; clear hb
  go_enter Tryz.func81, Tryz.ntmps81
  go_wp2
  go_ret3
  refine ⟨?_, Below.refl _ _⟩
  rw [HE.out, HB.out]; rfl

set_option maxRecDepth 100000 in
set_option maxHeartbeats 1600000 in
theorem compile_short (s : ByteArray) (W : World) (h : s.size ≤ 4096) : Calls Tryz.prog 81 #[.string s] W fun e W' => (errOf s = 0 → CompOk W s e W') ∧ (errOf s ≠ 0 → CompNo W s e W') := by
  have hA := alts_all 40
  have hNx := read_nxt s
  have hgs := start_good s h
  have hEr : errOf s = (readEnd s).err := if_neg (by omega)
  have hBd : (readEnd s).err ≠ 0 → badOf s = (readEnd s).bad := fun hne => by rw [badOf, if_neg (by omega), if_neg hne]
  have HA := Lib.hid hA; clear hA
  have HNx := Lib.hid hNx; clear hNx
  have HGs := Lib.hid hgs; clear hgs
  have HEr := Lib.hid hEr; clear hEr
  have HBd := Lib.hid hBd; clear hBd
  go_enter Tryz.func81, Tryz.ntmps81
  go_wp2_with fail
  refine (HA.out W.heap.size _ W.heap.size (start s) (.slice none 0 0) ⟨blk_new W _, Nat.le_refl _, World.ownsRow_nil _ _ _ _, h⟩ (by simp) HGs.out (by simp) rfl).mono ?_
  rintro q W1 ⟨rfl, ⟨v1, hI1⟩, hF1⟩
  have hI1' : Is W.heap.size W1 W.heap.size (read s) v1 := hI1
  clear hI1
  have c1 := hI1'.c1
  have hb1 : Below W.heap.size W W1 := ((Below.refl W.heap.size W).alloc (Nat.le_refl _) _).trans hF1.below
  have HI1 := Lib.hid hI1'; clear hI1'
  have HB1 := Lib.hid hb1; clear hb1 hF1
  by_cases hlt : (read s).at_ < s.size
  · have hre : readEnd s = (read s).fail 2 (read s).at_ := if_pos hlt
    have HRE := Lib.hid hre; clear hre
    go_wp2_with fail
    refine (fail_calls 2 (read s).at_ HI1.out).mono ?_
    rintro q W2 ⟨rfl, hI2, hF2⟩
    rw [← HRE.out] at hI2
    have hne : (readEnd s).err ≠ 0 := by rw [HRE.out]; exact Rd.fail_err _ 2 _ (by decide)
    have hb2 := HB1.out.trans hF2.below
    clear hF2
    have HB2 := Lib.hid hb2; clear hb2
    have c4 := hI2.c4
    have c5 := hI2.c5
    have h4 : (((readEnd s).err : Int) != 0) = true := by rw [bne_iff_ne]; omega
    clear hI2
    have HNe := Lib.hid hne; clear hne
    go_wp2
    go_quiet (fail)
    go_wp2
    go_ret3
    refine ⟨fun hx => absurd (HEr.out.symm.trans hx) HNe.out, fun _ => ⟨?_, ?_⟩⟩
    · rw [HEr.out, HBd.out HNe.out]; rfl
    · have := HB2.out; exact ⟨this.os, this.tape, this.output, this.size, this.block⟩
  · have hre : readEnd s = read s := if_neg hlt
    have hge : s.size ≤ (read s).at_ := by omega
    have HRE := Lib.hid hre; clear hre hlt
    by_cases hne : (readEnd s).err = 0
    · have hI2 := HI1.out
      rw [← HRE.out] at hI2
      have hG2 := HNx.out.good HGs.out
      rw [← HRE.out] at hG2
      have hsh := hG2.short
      have c4 := hI2.c4
      rw [hne] at c4
      have HNe := Lib.hid hne; clear hne
      have HI2 := Lib.hid hI2; clear hI2 hG2
      have HB2 := Lib.hid HB1.out
      have hBs := Lib.hid HB1.out.size
      go_wp2_with fail
      refine (put_calls ⟨3, .zero, 0, 0⟩ HI2.out hBs.out (by omega)).mono ?_
      rintro q W3 ⟨rfl, ⟨v3, hI3⟩, hF3⟩
      have hl3 : ((readEnd s).put ⟨3, .zero, 0, 0⟩).l = progOf s := rfl
      obtain ⟨gg, cap, rfl, hgg, hne⟩ := hI3.form (by rw [hl3]; simp [progOf])
      rw [hl3] at hI3
      have c3 := hI3.c3
      have hown := hI3.own
      rw [hl3] at hown
      have HI3 := Lib.hid hI3; clear hI3 hl3
      have HOwn := Lib.hid hown; clear hown
      have HB3 := Lib.hid (HB2.out.trans hF3.below); clear hF3
      go_wp2
      go_ret3
      refine ⟨fun _ => ⟨W3.heap.size, rfl, ⟨gg, cap, blk_new _ _, own_weak (HOwn.out.alloc _) (Nat.zero_le _)⟩, HB3.out.alloc HB3.out.size _, HB3.out.size⟩, fun hx => absurd (HEr.out.trans HNe.out) hx⟩
    · have hI2 := HI1.out
      rw [← HRE.out] at hI2
      have HB2 := Lib.hid HB1.out
      have c4 := hI2.c4
      have c5 := hI2.c5
      have h4 : (((readEnd s).err : Int) != 0) = true := by rw [bne_iff_ne]; omega
      clear hI2
      have HNe := Lib.hid hne; clear hne
      go_wp2
      go_quiet (fail)
      go_wp2
      go_ret3
      refine ⟨fun hx => absurd (HEr.out.symm.trans hx) HNe.out, fun _ => ⟨?_, ?_⟩⟩
      · rw [HEr.out, HBd.out HNe.out]; rfl
      · have := HB2.out; exact ⟨this.os, this.tape, this.output, this.size, this.block⟩
end Go.Proofs.YtnbgigdloehbjaaGreatDoor.Rg
