/-
  Groupings (agg.Check) and matches (join.Check) of package ir's nodes.
-/
import Derived.Test.YtnbgigdloehbjaaGreatDoorIrD
namespace Go.Proofs.YtnbgigdloehbjaaGreatDoor.Ir
open Go Go.RowKit Go.Proofs.YtnbgigdloehbjaaGreatDoor.Rg Go.Proofs.YtnbgigdloehbjaaGreatDoor.Ma
set_option maxHeartbeats 4000000
set_option maxRecDepth 100000

theorem aggCheck_calls (how : Int) (v : Value) (l : List ByteArray) (W : World) (hR : Row W Any v l.length 1 (scells l)) (hl : l.length ≤ 100000) (hsm : ∀ s ∈ l, s.size ≤ 300) :
    Calls Tryz.prog 68 #[.agg #[.int .i64 how, v]] W (RetB (.int .i64 (aggE how l : Nat)) W) := by
  obtain ⟨_, ao, cap, rfl, _⟩ := id hR
  have HR := Lib.hid hR; clear hR
  have HSm := Lib.hid hsm; clear hsm
  have hb0 : Below W.heap.size W (W.alloc (.cells #[.int .i64 how, .slice ao l.length cap] 26)) := (Below.refl _ _).alloc (Nat.le_refl _) _
  have HB0 := Lib.hid hb0; clear hb0
  by_cases h1 : how < 0
  · have hfin : aggE how l = 1 := if_pos (.inl h1)
    have HF := Lib.hid hfin; clear hfin
    go_enter Tryz.func68, Tryz.ntmps68
    go_wp2_with fail
    go_ret
    exact ⟨by rw [HF.out]; rfl, HB0.out⟩
  by_cases h2 : 2 < how
  · have hfin : aggE how l = 1 := if_pos (.inr (.inl h2))
    have HF := Lib.hid hfin; clear hfin
    go_enter Tryz.func68, Tryz.ntmps68
    go_wp2_with fail
    go_ret
    exact ⟨by rw [HF.out]; rfl, HB0.out⟩
  obtain ⟨x, hx⟩ : ∃ x, onceB l = x := ⟨_, rfl⟩
  have HX := Lib.hid hx
  by_cases h0 : how = 0
  · subst h0
    by_cases h3 : 0 < l.length
    · have hfin : aggE 0 l = 1 := if_pos (.inr (.inr (.inl ⟨rfl, h3⟩)))
      have HF := Lib.hid hfin; clear hfin hx
      go_enter Tryz.func68, Tryz.ntmps68
      go_wp2_with fail
      go_ret
      exact ⟨by rw [HF.out]; rfl, HB0.out⟩
    · cases x with
      | false =>
        have hfin : aggE 0 l = 1 := if_pos (.inr (.inr (.inr hx)))
        have HF := Lib.hid hfin; clear hfin hx
        go_enter Tryz.func68, Tryz.ntmps68
        go_wp2_with ((with_reducible refine (once_calls _ l _ (HR.out.keep (by decide) (Keeps.below HB0.out)) hl HSm.out false HX.out).mono ?_); rintro e W1 ⟨rfl, hb1⟩; have HB1 := Lib.hid (after1 (Below.refl _ _) hb1); clear hb1)
        go_ret
        exact ⟨by rw [HF.out]; rfl, HB1.out⟩
      | true =>
        have hfin : aggE 0 l = 0 := if_neg (by rw [hx]; rintro (h | h | ⟨h0, h⟩ | h) <;> first | omega | exact absurd h (by decide))
        have HF := Lib.hid hfin; clear hfin hx
        go_enter Tryz.func68, Tryz.ntmps68
        go_wp2_with ((with_reducible refine (once_calls _ l _ (HR.out.keep (by decide) (Keeps.below HB0.out)) hl HSm.out true HX.out).mono ?_); rintro e W1 ⟨rfl, hb1⟩; have HB1 := Lib.hid (after1 (Below.refl _ _) hb1); clear hb1)
        go_ret
        exact ⟨by rw [HF.out]; rfl, HB1.out⟩
  · have t0 : (how == 0) = false := by rw [beq_eq_false_iff_ne]; exact h0
    cases x with
    | false =>
      have hfin : aggE how l = 1 := if_pos (.inr (.inr (.inr hx)))
      have HF := Lib.hid hfin; clear hfin hx
      go_enter Tryz.func68, Tryz.ntmps68
      go_wp2_with ((with_reducible refine (once_calls _ l _ (HR.out.keep (by decide) (Keeps.below HB0.out)) hl HSm.out false HX.out).mono ?_); rintro e W1 ⟨rfl, hb1⟩; have HB1 := Lib.hid (after1 (Below.refl _ _) hb1); clear hb1)
      go_ret
      exact ⟨by rw [HF.out]; rfl, HB1.out⟩
    | true =>
      have hfin : aggE how l = 0 := if_neg (by rw [hx]; rintro (h | h | ⟨h0, h⟩ | h) <;> first | omega | exact absurd h (by decide))
      have HF := Lib.hid hfin; clear hfin hx
      go_enter Tryz.func68, Tryz.ntmps68
      go_wp2_with ((with_reducible refine (once_calls _ l _ (HR.out.keep (by decide) (Keeps.below HB0.out)) hl HSm.out true HX.out).mono ?_); rintro e W1 ⟨rfl, hb1⟩; have HB1 := Lib.hid (after1 (Below.refl _ _) hb1); clear hb1)
      go_ret
      exact ⟨by rw [HF.out]; rfl, HB1.out⟩
theorem str_ne {a b : ByteArray} (h : ¬ a.data = b.data) : (a.toList == b.toList) = false := by
  rw [beq_eq_false_iff_ne]
  intro e
  rw [ByteArray.toList_eq, ByteArray.toList_eq] at e
  exact h (by rw [← Array.toArray_toList (xs := a.data), e, Array.toArray_toList])
/-- A text among others (slices.Index). -/
theorem indexS_calls (v : Value) (l : List ByteArray) (W : World) (hR : Row W Any v l.length 1 (scells l)) (hl : l.length ≤ 100000) (s : ByteArray) :
    Calls Tryz.prog 105 #[v, .string s] W (fun e W' => ∃ x : Int, e = .returned (.int .i64 x) ∧ decide (0 ≤ x) = decide (s.data ∈ dl l) ∧ Below W.heap.size W W') := by
  obtain ⟨_, ao, cap, rfl, _⟩ := id hR
  have HR := Lib.hid hR; clear hR
  go_enter Tryz.func105, Tryz.ntmps105
  go_wp2_with fail
  go_loopw [8] (fun i wr => ∃ k : Nat, k ≤ l.length ∧ i = .int .i64 (k : Int) ∧ s.data ∉ dl (l.take k) ∧ Below W.heap.size W wr) (fun i _ => l.length - (intOf i).toNat)
  case atStart => exact ⟨0, Nat.zero_le _, rfl, by simp [dl], Below.refl _ _⟩
  case round =>
    obtain ⟨k, hk, rfl, hno, hbel⟩ := hrel
    by_cases hkl : k < l.length
    · obtain ⟨b, o, ha, t, ht, hc⟩ := str_at (HR.out.keep (by decide) (Keeps.below hbel)) hkl
      subst ha
      have htk : l.take (k + 1) = l.take k ++ [t] := by rw [List.take_add_one, ht]; rfl
      have hmem := List.mem_of_getElem? ht
      have HT := Lib.hid ht; clear ht
      have HTk := Lib.hid htk; clear htk
      have HBel := Lib.hid hbel; clear hbel
      have HNo := Lib.hid hno; clear hno
      have HMem := Lib.hid hmem; clear hmem
      by_cases he : s.data = t.data
      · have hst : s = t := by obtain ⟨a⟩ := s; obtain ⟨b⟩ := t; simp at he; rw [he]
        have HE := Lib.hid he; clear he
        subst hst
        go_wp2_with fail
        go_ret
        exact ⟨_, rfl, by first | rw [decide_eq_decide] | skip
                          exact ⟨fun _ => List.mem_map_of_mem HMem.out, fun _ => by omega⟩, HBel.out⟩
      · have hq := str_ne he
        have HE := Lib.hid he; clear he
        go_wp2_with fail
        go_roundw
        case rel => exact ⟨k + 1, by omega, by go_num, by
          rw [HTk.out, dl, List.map_append, List.mem_append]
          rintro (h | h)
          · exact HNo.out h
          · simp at h; exact HE.out h, HBel.out⟩
        case measure => (simp [intOf] <;> omega)
    · have hz : l.take k = l := List.take_of_length_le (by omega)
      rw [hz] at hno
      have HNo := Lib.hid hno; clear hno
      have HBel := Lib.hid hbel; clear hbel
      go_wp2_with fail
      go_ret
      exact ⟨_, rfl, by rw [decide_eq_decide]; exact ⟨fun h => absurd h (by decide), fun h => absurd h HNo.out⟩, HBel.out⟩
theorem containsS_calls (v : Value) (l : List ByteArray) (W : World) (hR : Row W Any v l.length 1 (scells l)) (hl : l.length ≤ 100000) (s : ByteArray) :
    Calls Tryz.prog 85 #[v, .string s] W (RetB (.bool (decide (s.data ∈ dl l))) W) := by
  have HC := Lib.hid (indexS_calls v l W hR hl s)
  clear hR
  go_enter Tryz.func85, Tryz.ntmps85
  go_wp2_with fail
  (with_reducible refine HC.out.mono ?_)
  rintro e W1 ⟨x, rfl, hx, hb1⟩
  have HX := Lib.hid hx; have HB1 := Lib.hid hb1; clear hx hb1
  go_wp2_with fail
  go_ret
  exact ⟨by rw [← HX.out]; rfl, HB1.out⟩
end Go.Proofs.YtnbgigdloehbjaaGreatDoor.Ir
