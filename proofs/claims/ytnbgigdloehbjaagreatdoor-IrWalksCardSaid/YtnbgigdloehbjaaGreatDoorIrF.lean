/-
  Matches of operators (join.Check).
-/
import Derived.Test.YtnbgigdloehbjaaGreatDoorIrE
namespace Go.Proofs.YtnbgigdloehbjaaGreatDoor.Ir
open Go Go.RowKit Go.Proofs.YtnbgigdloehbjaaGreatDoor.Rg Go.Proofs.YtnbgigdloehbjaaGreatDoor.Ma
set_option maxHeartbeats 4000000
set_option maxRecDepth 100000

/-- The closure: is a text among the grouping's names? -/
theorem among_calls (g : Nat) (vX : Value) (xn : List ByteArray) (W : World) (hc : W.cell? ⟨g, 1, none⟩ = some vX) (hR : Row W Any vX xn.length 1 (scells xn)) (hl : xn.length ≤ 100000) (s : ByteArray) :
    Calls Tryz.prog 84 #[.string s, .pointer (some ⟨g, 0, none⟩)] W (RetB (.bool (decide (s.data ∈ dl xn))) W) := by
  have HC := Lib.hid (containsS_calls vX xn W hR hl s)
  clear hR
  go_enter Tryz.func84, Tryz.ntmps84
  go_wp2_with fail
  (with_reducible refine HC.out.mono ?_)
  rintro e W1 ⟨rfl, hb1⟩
  have HB1 := Lib.hid hb1; clear hb1
  go_wp2_with fail
  go_ret
  exact ⟨rfl, HB1.out⟩
theorem indexA_calls (g : Nat) (vX : Value) (xn : List ByteArray) (v : Value) (l : List ByteArray) (W : World) (hc : W.cell? ⟨g, 1, none⟩ = some vX) (hg : g < W.heap.size) (hX : Row W Any vX xn.length 1 (scells xn)) (hxl : xn.length ≤ 100000)
    (hR : Row W Any v l.length 1 (scells l)) (hl : l.length ≤ 100000) :
    Calls Tryz.prog 104 #[v, .func (.func 84) #[] #[.pointer (some ⟨g, 0, none⟩)]] W
      (fun e W' => ∃ x : Int, e = .returned (.int .i64 x) ∧ decide (0 ≤ x) = (l.any fun s => decide (s.data ∈ dl xn)) ∧ Below W.heap.size W W') := by
  obtain ⟨_, ao, cap, rfl, _⟩ := id hR
  have HR := Lib.hid hR; clear hR
  have HX := Lib.hid hX; clear hX
  have HC := Lib.hid hc; clear hc
  go_enter Tryz.func104, Tryz.ntmps104
  go_wp2_with fail
  go_loopw [8] (fun i wr => ∃ k : Nat, k ≤ l.length ∧ i = .int .i64 (k : Int) ∧ ((l.take k).any fun s => decide (s.data ∈ dl xn)) = false ∧ Below W.heap.size W wr) (fun i _ => l.length - (intOf i).toNat)
  case atStart => exact ⟨0, Nat.zero_le _, rfl, rfl, Below.refl _ _⟩
  case round =>
    obtain ⟨k, hk, rfl, hno, hbel⟩ := hrel
    by_cases hkl : k < l.length
    · obtain ⟨b, o, ha, t, ht, hc⟩ := str_at (HR.out.keep (by decide) (Keeps.below hbel)) hkl
      subst ha
      have htk : l.take (k + 1) = l.take k ++ [t] := by rw [List.take_add_one, ht]; rfl
      have hmem := List.mem_of_getElem? ht
      have hgw : wr.cell? ⟨g, 1, none⟩ = some vX := (hbel.cell (p := ⟨g, 1, none⟩) hg).trans HC.out
      have HGw := Lib.hid hgw; clear hgw
      have HXw := Lib.hid (HX.out.keep (by decide) (Keeps.below hbel))
      have HT := Lib.hid ht; clear ht
      have HTk := Lib.hid htk; clear htk
      have HBel := Lib.hid hbel; clear hbel
      have HNo := Lib.hid hno; clear hno
      have HMem := Lib.hid hmem; clear hmem
      have hwsz := HBel.out.size
      go_wp2_with fail
      (with_reducible refine (among_calls g vX xn _ HGw.out HXw.out hxl t).mono ?_)
      rintro e W1 ⟨rfl, hb1⟩
      have hb2 : Below W.heap.size W W1 := HBel.out.trans (hb1.mono hwsz)
      have HB1 := Lib.hid hb2; clear hb1 hb2
      cases hd : decide (t.data ∈ dl xn) with
      | true =>
        have hfin : (l.any fun s => decide (s.data ∈ dl xn)) = true := List.any_eq_true.2 ⟨t, HMem.out, hd⟩
        have HF := Lib.hid hfin; clear hfin hd
        go_wp2_with fail
        go_ret
        exact ⟨_, rfl, by rw [HF.out]; simp, HB1.out⟩
      | false =>
        have hst : ((l.take (k + 1)).any fun s => decide (s.data ∈ dl xn)) = false := by rw [HTk.out, List.any_append, HNo.out]; simpa using hd
        have HSt := Lib.hid hst; clear hst hd
        go_wp2_with fail
        go_roundw
        case rel => exact ⟨k + 1, by omega, by go_num, HSt.out, HB1.out⟩
        case measure => (simp [intOf] <;> omega)
    · have hz : l.take k = l := List.take_of_length_le (by omega)
      rw [hz] at hno
      have HNo := Lib.hid hno; clear hno
      have HBel := Lib.hid hbel; clear hbel
      go_wp2_with fail
      go_ret
      exact ⟨_, rfl, by rw [HNo.out]; rfl, HBel.out⟩
theorem containsA_calls (g : Nat) (vX : Value) (xn : List ByteArray) (v : Value) (l : List ByteArray) (W : World) (hc : W.cell? ⟨g, 1, none⟩ = some vX) (hg : g < W.heap.size) (hX : Row W Any vX xn.length 1 (scells xn)) (hxl : xn.length ≤ 100000)
    (hR : Row W Any v l.length 1 (scells l)) (hl : l.length ≤ 100000) :
    Calls Tryz.prog 83 #[v, .func (.func 84) #[] #[.pointer (some ⟨g, 0, none⟩)]] W (RetB (.bool (l.any fun s => decide (s.data ∈ dl xn))) W) := by
  have HC := Lib.hid (indexA_calls g vX xn v l W hc hg hX hxl hR hl)
  clear hR hX hc
  go_enter Tryz.func83, Tryz.ntmps83
  go_wp2_with fail
  (with_reducible refine HC.out.mono ?_)
  rintro e W1 ⟨x, rfl, hx, hb1⟩
  have HX := Lib.hid hx; have HB1 := Lib.hid hb1; clear hx hb1
  go_wp2_with fail
  go_ret
  exact ⟨by rw [← HX.out]; rfl, HB1.out⟩
end Go.Proofs.YtnbgigdloehbjaaGreatDoor.Ir
