/-
  The reader's method pieces.
-/
import Derived.Test.YtnbgigdloehbjaaGreatDoorRgJ
import Derived.Deep.LoopGhost
namespace Go.Proofs.YtnbgigdloehbjaaGreatDoor.Rg
open Go Go.RowKit

namespace Rd
theorem many_err (r : Rd) (p : Nat) : (r.many p).err = r.err := by
  unfold many
  split
  · exact isR_err r 43
  · split
    · exact isR_err r 63
    · split
      · exact isR_err r 42
      · rfl
theorem many_le (r : Rd) (p : Nat) : r.at_ ≤ (r.many p).at_ := by
  unfold many
  split
  · exact (isR_ext r 43).le
  · split
    · exact (isR_ext r 63).le
    · split
      · exact (isR_ext r 42).le
      · exact Nat.le_refl _
theorem stops_err (r : Rd) (h : r.err ≠ 0) : r.stops = true := by
  have : r.has = false := by simp [has, h]
  simp [stops, this]
end Rd
theorem Good.small {r : Rd} (h : Good r) : Small r.l := fun x hx => by
  have h1 := h.tgt x hx
  have h2 := h.len
  have h3 := h.top
  have h4 := h.sz
  omega
theorem Good.short {r : Rd} (h : Good r) : r.l.length ≤ 8192 := by
  have h2 := h.len
  have h3 := h.top
  have h4 := h.sz
  omega

def PiecesC (k : Nat) : Prop := Does 124 k (fun r => Rd.pieces (Rd.group k) r.fuel r) (fun _ => []) false

set_option maxRecDepth 100000 in
set_option maxHeartbeats 1600000 in
theorem pieces_of (k : Nat) (hA : AtomC k) : PiecesC k := by
  intro B W g r v hI hB hG _ hd
  have HA := Lib.hid hA; clear hA
  have HI := Lib.hid hI; clear hI
  have HG := Lib.hid hG; clear hG
  have HD := Lib.hid hd; clear hd
  go_enter Tryz.func124, Tryz.ntmps124
  go_wp2_with fail
  go_loopg [] r.fuel (fun n wr => ∃ r1 v1, Is B wr g r1 v1 ∧ Fr B W wr ∧ Nxt r r1 ∧ (r1.err = 0 → r1.fuel ≤ n) ∧ Rd.pieces (Rd.group k) n r1 = Rd.pieces (Rd.group k) r.fuel r)
  case atStart => exact ⟨r, v, HI.out, Fr.refl _ _, Nxt.refl _, fun _ => Nat.le_refl _, rfl⟩
  case round =>
    obtain ⟨r1, v1, hI1, hF1, hN1, hfu, hpc⟩ := hrel
    have hG1 := hN1.good HG.out
    by_cases hs : r1.stops = true
    · have hp : Rd.pieces (Rd.group k) gk r1 = r1 := by
        cases gk with
        | zero => rfl
        | succ n => exact if_pos hs
      rw [hp] at hpc
      have HP := Lib.hid hpc; clear hpc hp
      have HI1 := Lib.hid hI1; clear hI1
      have HF1 := Lib.hid hF1; clear hF1
      have hcs : r1.has = false ∨ (r1.has = true ∧ r1.cur = 124) ∨ (r1.has = true ∧ r1.cur = 41) := by
        by_cases h : r1.has = true
        · simp [Rd.stops, h] at hs
          rcases hs with hs | hs
          · exact .inr (.inl ⟨h, hs⟩)
          · exact .inr (.inr ⟨h, hs⟩)
        · exact .inl (by simpa using h)
      clear hs hfu hN1 hG1
      rcases hcs with hh | ⟨hh, hc⟩ | ⟨hh, hc⟩
      · have HH := Lib.hid hh; clear hh
        go_wp2_with fail
        refine (next_calls HI1.out).mono ?_
        rintro q W2 ⟨rfl, hI2, hF2⟩
        rw [HH.out]
        have HI2 := Lib.hid hI2; clear hI2
        have HF2 := Lib.hid hF2; clear hF2
        go_wp2
        refine bodyPost_ret (results_none rfl _ _ _) rfl ?_
        refine ⟨rfl, ⟨v1, ?_⟩, HF1.out.trans HF2.out⟩
        rw [← HP.out]; exact HI2.out
      all_goals
        have hn : r1.nextV = r1.cur := if_pos hh
        have HN := Lib.hid hn; clear hn
        have HH := Lib.hid hh; clear hh
        have HC := Lib.hid hc; clear hc
        go_wp2_with fail
        refine (next_calls HI1.out).mono ?_
        rintro q W2 ⟨rfl, hI2, hF2⟩
        rw [HN.out, HH.out, HC.out]
        have HI2 := Lib.hid hI2; clear hI2
        have HF2 := Lib.hid hF2; clear hF2
        go_wp2
        refine bodyPost_ret (results_none rfl _ _ _) rfl ?_
        refine ⟨rfl, ⟨v1, ?_⟩, HF1.out.trans HF2.out⟩
        rw [← HP.out]; exact HI2.out
    · have hs' : r1.has = true ∧ r1.cur ≠ 124 ∧ r1.cur ≠ 41 := by
        simp [Rd.stops] at hs
        exact ⟨hs.1.1, hs.1.2, hs.2⟩
      obtain ⟨hh, hc1, hc2⟩ := hs'
      obtain ⟨he, hlt⟩ := (Rd.has_iff r1).1 hh
      obtain ⟨n, rfl⟩ : ∃ n, gk = n + 1 := ⟨gk - 1, by have := hfu he; have := r1.fuel_pos hG1.top; omega⟩
      have hfn := hfu he
      have hn : r1.nextV = r1.cur := if_pos hh
      have b1 : ((r1.cur : Int) == 124) = false := by rw [beq_eq_false_iff_ne]; omega
      have b2 : ((r1.cur : Int) == 41) = false := by rw [beq_eq_false_iff_ne]; omega
      have HN := Lib.hid hn; clear hn
      clear hc1 hc2
      have HF1 := Lib.hid hF1; clear hF1
      have HN1 := Lib.hid hN1; clear hN1
      have HE := Lib.hid he; clear he hfu
      by_cases hna : r1.noAtom = true
      · have hp : Rd.pieces (Rd.group k) (n + 1) r1 = r1.fail 2 r1.at_ := by rw [Rd.pieces, if_neg hs, if_pos hna]
        rw [hp] at hpc
        have HP := Lib.hid hpc; clear hpc hp
        have hix := indexByte_has [42, 43, 63, 93] r1.cur (cur_lt r1) (by exact hna)
        have hdx : decide (0 ≤ Lib.indexByte [42, 43, 63, 93] (Nat.toUInt8 r1.cur)) = true := by simpa using hix
        have HH := Lib.hid hh; clear hh
        clear hs hna hix
        go_wp2_with fail
        refine (next_calls hI1).mono ?_
        rintro q W2 ⟨rfl, hI2, hF2⟩
        rw [HN.out, HH.out]
        have c1 := hI2.c1
        have HI2 := Lib.hid hI2; clear hI2 hI1
        have HF2 := Lib.hid hF2; clear hF2
        go_wp2_with fail
        refine (Tryz.strings_IndexByte _ _ _).mono ?_
        rintro q2 W3 ⟨rfl, rfl⟩
        go_wp2_with fail
        refine (fail_calls 2 r1.at_ HI2.out).mono ?_
        rintro q W4 ⟨rfl, hI4, hF4⟩
        have HI4 := Lib.hid hI4; clear hI4
        have HF4 := Lib.hid hF4; clear hF4
        go_wp2
        refine bodyPost_ret (results_none rfl _ _ _) rfl ?_
        refine ⟨rfl, ⟨v1, ?_⟩, (HF1.out.trans HF2.out).trans HF4.out⟩
        rw [← HP.out]; exact HI4.out
      · have hp : Rd.pieces (Rd.group k) (n + 1) r1 = Rd.pieces (Rd.group k) n ((r1.atom (Rd.group k)).many r1.l.length) := by rw [Rd.pieces, if_neg hs, if_neg hna]
        rw [hp] at hpc
        have HP := Lib.hid hpc; clear hpc hp
        have hix := indexByte_hasnt [42, 43, 63, 93] r1.cur (cur_lt r1) (by exact (by simpa using hna : r1.noAtom = false))
        have hdx : decide (0 ≤ Lib.indexByte [42, 43, 63, 93] (Nat.toUInt8 r1.cur)) = false := by simpa using hix
        have hat := Rd.atom_nxt r1 (Rd.group k) (Rd.group_nxt k) hh
        have hgo := Rd.atom_go r1 (Rd.group k) (Rd.group_go k) hh
        have hmn := Rd.many_nxt (r1.atom (Rd.group k)) r1.l.length hat.mono
        have hdp : r1.deep + k = 40 := by rw [HN1.out.deep]; exact HD.out
        have hG2 := hat.good hG1
        have HG1 := Lib.hid hG1; clear hG1
        have HAT := Lib.hid hat; clear hat
        have HGO := Lib.hid hgo; clear hgo
        have HMN := Lib.hid hmn; clear hmn
        have HDP := Lib.hid hdp; clear hdp
        have HG2 := Lib.hid hG2; clear hG2
        have HH := Lib.hid hh; clear hh
        clear hs hna hix
        go_wp2_with fail
        refine (next_calls hI1).mono ?_
        rintro q W2 ⟨rfl, hI2, hF2⟩
        rw [HN.out, HH.out]
        obtain ⟨ao, cap, rfl⟩ := hI2.anyForm
        have c3 := hI2.c3
        have HI2 := Lib.hid hI2; clear hI2 hI1
        have HF2 := Lib.hid hF2; clear hF2
        go_wp2_with fail
        refine (Tryz.strings_IndexByte _ _ _).mono ?_
        rintro q2 W3 ⟨rfl, rfl⟩
        have hB2 := Nat.le_trans hB (HF1.out.trans HF2.out).below.size
        have HB2 := Lib.hid hB2; clear hB2
        go_wp2_with fail
        refine (HA.out B _ g r1 _ HI2.out HB2.out HG1.out (fun _ => HH.out) HDP.out).mono ?_
        rintro q W4 ⟨rfl, ⟨v4, hI4⟩, hF4⟩
        have HI4 := Lib.hid hI4; clear hI4
        have HF4 := Lib.hid ((HF1.out.trans HF2.out).trans hF4); clear hF4
        clear c3
        have hB4 := Nat.le_trans hB HF4.out.below.size
        have HB4 := Lib.hid hB4; clear hB4
        go_wp2_with fail
        refine (many_calls r1.l.length HI4.out HB4.out (by have := HG2.out.short; omega) HAT.out.mono HG2.out.small).mono ?_
        rintro q W5 ⟨rfl, ⟨v5, hI5⟩, hF5⟩
        have HI5 := Lib.hid hI5; clear hI5
        have HF5 := Lib.hid (HF4.out.trans hF5); clear hF5
        go_wp2
        go_roundg n
        case measure => omega
        case rel =>
          refine ⟨_, v5, HI5.out, HF5.out, (HN1.out.trans HAT.out).trans HMN.out, fun he5 => ?_, HP.out⟩
          have e1 : (r1.atom (Rd.group k)).err = 0 := by rw [← Rd.many_err _ r1.l.length]; exact he5
          have e2 := HGO.out e1
          have e3 := Rd.many_le (r1.atom (Rd.group k)) r1.l.length
          have e4 := (HAT.out.trans HMN.out).s
          have e5 := HG1.out.top
          unfold Rd.fuel at *
          rw [e4]; omega
end Go.Proofs.YtnbgigdloehbjaaGreatDoor.Rg
