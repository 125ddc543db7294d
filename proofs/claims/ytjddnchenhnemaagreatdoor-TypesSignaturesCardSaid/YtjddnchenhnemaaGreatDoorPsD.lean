/-
  Names among others: slices.Index; the operators', the aggregations', the windows' names.
-/
import Derived.Test.YtjddnchenhnemaaGreatDoorRwA
namespace Go.Proofs.YtjddnchenhnemaaGreatDoor.Ps
open Go Go.RowKit Go.Proofs.YtjddnchenhnemaaGreatDoor.Rg Go.Proofs.YtjddnchenhnemaaGreatDoor.Ma Go.Proofs.YtjddnchenhnemaaGreatDoor.Ir
set_option maxHeartbeats 4000000
set_option maxRecDepth 100000

/-- The place of a text among others, counted from k; -1: it is not there. -/
def ixS : List ByteArray → ByteArray → Nat → Int
  | [], _, _ => -1
  | t :: l, s, k => if (s.toList == t.toList) = true then (k : Int) else ixS l s (k + 1)
theorem row_str {W : World} {F : Nat → Prop} {v : Value} {n : Nat} {l : List ByteArray} {ao : Option Addr} {cap : Nat} (h : Row W F v n 1 (scells l)) (hv : v = .slice ao n cap) {k : Nat} (hk : k < l.length) :
    ∃ b o t, ao = some ⟨b, o, none⟩ ∧ l[k]? = some t ∧ W.cell? ⟨b, o + k, none⟩ = some (.string t) := by
  obtain ⟨hl, ao', cap', hv', hc⟩ := h
  rw [hv'] at hv
  simp only [Value.slice.injEq, true_and] at hv
  obtain ⟨rfl, rfl⟩ := hv
  simp [scells] at hl
  obtain ⟨b, o, hF, rfl, hr⟩ := hc (by omega)
  refine ⟨b, o, l[k], rfl, List.getElem?_eq_getElem hk, hr k _ ?_⟩
  simp [scells, hk]
theorem toList_inj {a b : ByteArray} (h : a.toList = b.toList) : a = b := by
  rw [ByteArray.toList_eq, ByteArray.toList_eq] at h
  obtain ⟨x⟩ := a
  obtain ⟨y⟩ := b
  have : x = y := by rw [← Array.toArray_toList (xs := x), ← Array.toArray_toList (xs := y)]; exact congrArg _ h
  rw [this]
theorem index_calls (v : Value) (l : List ByteArray) (W : World) (hR : Row W Any v l.length 1 (scells l)) (hl : l.length ≤ 100000) (s : ByteArray) :
    Calls Tryz.prog 17 #[v, .string s] W (RetB (.int .i64 (ixS l s 0)) W) := by
  obtain ⟨_, ao, cap, rfl, _⟩ := id hR
  have HR := Lib.hid hR; clear hR
  go_enter Tryz.func17, Tryz.ntmps17
  go_wp2_with fail
  go_loopw [8] (fun i wr => ∃ k : Nat, k ≤ l.length ∧ i = .int .i64 (k : Int) ∧ ixS l s 0 = ixS (l.drop k) s k ∧ Below W.heap.size W wr) (fun i _ => l.length - (intOf i).toNat)
  case atStart => exact ⟨0, Nat.zero_le _, rfl, rfl, Below.refl _ _⟩
  case round =>
    obtain ⟨k, hk, rfl, hix, hbel⟩ := hrel
    by_cases hkl : k < l.length
    · obtain ⟨b, o, t, ha, ht, hc⟩ := row_str (HR.out.keep (by decide) (Keeps.below hbel)) rfl hkl
      subst ha
      have hd : l.drop k = t :: l.drop (k + 1) := by
        rw [List.drop_eq_getElem_cons hkl]
        rw [List.getElem?_eq_getElem hkl] at ht
        simp at ht
        rw [ht]
      rw [hd, ixS] at hix
      obtain ⟨b, hb⟩ : ∃ b, (s.toList == t.toList) = b := ⟨_, rfl⟩
      rw [hb] at hix
      have HBel := Lib.hid hbel; clear hbel
      clear hd ht
      cases b with
      | true =>
        rw [if_pos rfl] at hix
        have HI := Lib.hid hix; clear hix
        obtain rfl : s = t := toList_inj (beq_iff_eq.1 hb)
        clear hb
        go_wp2_with fail
        go_ret
        exact ⟨by rw [HI.out]; rfl, HBel.out⟩
      | false =>
        rw [if_neg (by decide)] at hix
        have HI := Lib.hid hix; clear hix
        go_wp2_with fail
        go_roundw
        case rel => exact ⟨k + 1, by omega, by go_num, HI.out, HBel.out⟩
        case measure => (simp [intOf] <;> omega)
    · have hz : l.drop k = [] := List.drop_of_length_le (by omega)
      rw [hz, ixS] at hix
      have HI := Lib.hid hix; clear hix
      have HBel := Lib.hid hbel; clear hbel
      go_wp2_with fail
      go_ret
      exact ⟨by rw [HI.out]; rfl, HBel.out⟩
def RetR (l : List ByteArray) (W : World) (e : Ending) (W' : World) : Prop := ∃ v, e = .returned v ∧ Row W' Any v l.length 1 (scells l) ∧ Below W.heap.size W W'
def joinL : List ByteArray := [⟨#[]⟩, ⟨#[43]⟩, ⟨#[45]⟩, ⟨#[42]⟩, ⟨#[47]⟩, ⟨#[61, 61]⟩, ⟨#[33, 61]⟩, ⟨#[62]⟩, ⟨#[60]⟩, ⟨#[62, 61]⟩, ⟨#[60, 61]⟩, ⟨#[97, 110, 100]⟩, ⟨#[111, 114]⟩, ⟨#[117, 110, 108, 101, 115, 115]⟩, ⟨#[100, 101, 102, 97, 117, 108, 116]⟩]
theorem joinNames_calls (W : World) : Calls Tryz.prog 110 #[] W (RetR joinL W) := by
  go_enter Tryz.func110, Tryz.ntmps110
  go_wp2
  go_ret
  exact ⟨_, rfl, ⟨rfl, _, _, rfl, fun _ => ⟨_, 0, trivial, rfl, range_blk (blk_new W _)⟩⟩, (Below.refl _ _).alloc (Nat.le_refl _) _⟩
def aggL : List ByteArray := [⟨#[]⟩, ⟨#[115, 117, 109]⟩, ⟨#[99, 111, 117, 110, 116]⟩, ⟨#[109, 105, 110]⟩, ⟨#[109, 97, 120]⟩, ⟨#[97, 118, 103]⟩, ⟨#[116, 111, 112, 107]⟩, ⟨#[98, 111, 116, 116, 111, 109, 107]⟩, ⟨#[103, 114, 111, 117, 112]⟩]
theorem aggNames_calls (W : World) : Calls Tryz.prog 74 #[] W (RetR aggL W) := by
  go_enter Tryz.func74, Tryz.ntmps74
  go_wp2
  go_ret
  exact ⟨_, rfl, ⟨rfl, _, _, rfl, fun _ => ⟨_, 0, trivial, rfl, range_blk (blk_new W _)⟩⟩, (Below.refl _ _).alloc (Nat.le_refl _) _⟩
def windowL : List ByteArray := [⟨#[]⟩, ⟨#[99, 111, 117, 110, 116, 95, 111, 118, 101, 114, 95, 116, 105, 109, 101]⟩, ⟨#[115, 117, 109, 95, 111, 118, 101, 114, 95, 116, 105, 109, 101]⟩, ⟨#[97, 118, 103, 95, 111, 118, 101, 114, 95, 116, 105, 109, 101]⟩, ⟨#[109, 105, 110, 95, 111, 118, 101, 114, 95, 116, 105, 109, 101]⟩, ⟨#[109, 97, 120, 95, 111, 118, 101, 114, 95, 116, 105, 109, 101]⟩, ⟨#[108, 97, 115, 116, 95, 111, 118, 101, 114, 95, 116, 105, 109, 101]⟩, ⟨#[102, 105, 114, 115, 116, 95, 111, 118, 101, 114, 95, 116, 105, 109, 101]⟩, ⟨#[105, 110, 99, 114, 101, 97, 115, 101]⟩, ⟨#[114, 97, 116, 101]⟩, ⟨#[100, 101, 108, 116, 97]⟩, ⟨#[99, 104, 97, 110, 103, 101, 115]⟩, ⟨#[114, 101, 115, 101, 116, 115]⟩, ⟨#[119, 97, 118, 101, 95, 109, 97, 103]⟩, ⟨#[119, 97, 118, 101, 95, 116, 117, 114, 110]⟩]
theorem windowNames_calls (W : World) : Calls Tryz.prog 18 #[] W (RetR windowL W) := by
  go_enter Tryz.func18, Tryz.ntmps18
  go_wp2
  go_ret
  exact ⟨_, rfl, ⟨rfl, _, _, rfl, fun _ => ⟨_, 0, trivial, rfl, range_blk (blk_new W _)⟩⟩, (Below.refl _ _).alloc (Nat.le_refl _) _⟩
theorem joinNamed_calls (s : ByteArray) (x : Int) (hx : ixS joinL s 0 = x) (W : World) : Calls Tryz.prog 88 #[.string s] W (RetB (.tuple #[.int .i64 (if x < 1 then 0 else x), .bool (decide (1 ≤ x))]) W) := by
  have HX := Lib.hid hx; clear hx
  by_cases h1 : x < 1
  · have h2 : decide (1 ≤ x) = false := decide_eq_false (by omega)
    rw [if_pos h1, h2]
    clear h2
    go_enter Tryz.func88, Tryz.ntmps88
    go_wp2_with fail
    (with_reducible refine (joinNames_calls _).mono ?_)
    rintro e W1 ⟨v, rfl, hR, hb⟩
    have HB := Lib.hid hb; have HR := Lib.hid hR; clear hb hR
    go_wp2_with fail
    (with_reducible refine (index_calls v joinL _ HR.out (by decide) s).mono ?_)
    rw [HX.out]
    rintro e W2 ⟨rfl, hb2⟩
    have HB2 := Lib.hid (HB.out.trans (hb2.mono HB.out.size)); clear hb2
    go_wp2_with fail
    go_ret2
    exact ⟨rfl, HB2.out⟩
  · have h2 : decide (1 ≤ x) = true := decide_eq_true (by omega)
    rw [if_neg h1, h2]
    clear h2
    go_enter Tryz.func88, Tryz.ntmps88
    go_wp2_with fail
    (with_reducible refine (joinNames_calls _).mono ?_)
    rintro e W1 ⟨v, rfl, hR, hb⟩
    have HB := Lib.hid hb; have HR := Lib.hid hR; clear hb hR
    go_wp2_with fail
    (with_reducible refine (index_calls v joinL _ HR.out (by decide) s).mono ?_)
    rw [HX.out]
    rintro e W2 ⟨rfl, hb2⟩
    have HB2 := Lib.hid (HB.out.trans (hb2.mono HB.out.size)); clear hb2
    go_wp2_with fail
    go_ret2
    exact ⟨rfl, HB2.out⟩
theorem windowNamed_calls (s : ByteArray) (x : Int) (hx : ixS windowL s 0 = x) (W : World) : Calls Tryz.prog 11 #[.string s] W (RetB (.tuple #[.int .i64 (if x < 1 then 0 else x), .bool (decide (1 ≤ x))]) W) := by
  have HX := Lib.hid hx; clear hx
  by_cases h1 : x < 1
  · have h2 : decide (1 ≤ x) = false := decide_eq_false (by omega)
    rw [if_pos h1, h2]
    clear h2
    go_enter Tryz.func11, Tryz.ntmps11
    go_wp2_with fail
    (with_reducible refine (windowNames_calls _).mono ?_)
    rintro e W1 ⟨v, rfl, hR, hb⟩
    have HB := Lib.hid hb; have HR := Lib.hid hR; clear hb hR
    go_wp2_with fail
    (with_reducible refine (index_calls v windowL _ HR.out (by decide) s).mono ?_)
    rw [HX.out]
    rintro e W2 ⟨rfl, hb2⟩
    have HB2 := Lib.hid (HB.out.trans (hb2.mono HB.out.size)); clear hb2
    go_wp2_with fail
    go_ret2
    exact ⟨rfl, HB2.out⟩
  · have h2 : decide (1 ≤ x) = true := decide_eq_true (by omega)
    rw [if_neg h1, h2]
    clear h2
    go_enter Tryz.func11, Tryz.ntmps11
    go_wp2_with fail
    (with_reducible refine (windowNames_calls _).mono ?_)
    rintro e W1 ⟨v, rfl, hR, hb⟩
    have HB := Lib.hid hb; have HR := Lib.hid hR; clear hb hR
    go_wp2_with fail
    (with_reducible refine (index_calls v windowL _ HR.out (by decide) s).mono ?_)
    rw [HX.out]
    rintro e W2 ⟨rfl, hb2⟩
    have HB2 := Lib.hid (HB.out.trans (hb2.mono HB.out.size)); clear hb2
    go_wp2_with fail
    go_ret2
    exact ⟨rfl, HB2.out⟩
theorem ixS_le : ∀ (l : List ByteArray) (s : ByteArray) (k : Nat), ixS l s k < k + l.length ∧ (ixS l s k = -1 ∨ (k : Int) ≤ ixS l s k)
  | [], s, k => ⟨by simp [ixS]; omega, .inl rfl⟩
  | t :: l, s, k => by
    rw [ixS]
    split
    · exact ⟨by simp; omega, .inr (Int.le_refl _)⟩
    · have := ixS_le l s (k + 1)
      simp only [List.length_cons]
      refine ⟨by have := this.1; omega, ?_⟩
      rcases this.2 with h | h
      · exact .inl h
      · exact .inr (by omega)
theorem aggNamed_calls (s : ByteArray) (x : Int) (hx : ixS aggL s 0 = x) (W : World) : Calls Tryz.prog 126 #[.string s] W (RetB (.tuple #[.int .i64 (if x < 1 then 0 else x), .bool (decide (1 ≤ x))]) W) := by
  have hle := (ixS_le aggL s 0).1
  rw [hx] at hle
  have h9 : x ≤ 8 := by simp [aggL] at hle; omega
  clear hle
  have HX := Lib.hid hx; clear hx
  by_cases h1 : x < 1
  · have h2 : decide (1 ≤ x) = false := decide_eq_false (by omega)
    rw [if_pos h1, h2]
    clear h2
    go_enter Tryz.func126, Tryz.ntmps126
    go_wp2_with fail
    (with_reducible refine (aggNames_calls _).mono ?_)
    rintro e W1 ⟨v, rfl, hR, hb⟩
    have HB := Lib.hid hb; have HR := Lib.hid hR; clear hb hR
    go_wp2_with fail
    (with_reducible refine (index_calls v aggL _ HR.out (by decide) s).mono ?_)
    rw [HX.out]
    rintro e W2 ⟨rfl, hb2⟩
    have HB2 := Lib.hid (HB.out.trans (hb2.mono HB.out.size)); clear hb2
    go_wp2_with (go_at_call 73; go_in)
    go_ret2
    exact ⟨rfl, HB2.out⟩
  · have h2 : decide (1 ≤ x) = true := decide_eq_true (by omega)
    rw [if_neg h1, h2]
    clear h2
    go_enter Tryz.func126, Tryz.ntmps126
    go_wp2_with fail
    (with_reducible refine (aggNames_calls _).mono ?_)
    rintro e W1 ⟨v, rfl, hR, hb⟩
    have HB := Lib.hid hb; have HR := Lib.hid hR; clear hb hR
    go_wp2_with fail
    (with_reducible refine (index_calls v aggL _ HR.out (by decide) s).mono ?_)
    rw [HX.out]
    rintro e W2 ⟨rfl, hb2⟩
    have HB2 := Lib.hid (HB.out.trans (hb2.mono HB.out.size)); clear hb2
    go_wp2_with (go_at_call 73; go_in)
    go_ret2
    exact ⟨rfl, HB2.out⟩
/-- How much an operator binds. -/
def levelJ (op : Int) : Int := if op = 3 ∨ op = 4 then 6 else if op = 1 ∨ op = 2 then 5 else if 5 ≤ op ∧ op ≤ 10 then 4 else if op = 11 ∨ op = 13 then 3 else if op = 12 then 2 else if op = 14 then 1 else 0
theorem level_calls (n : Nat) (hn : n ≤ 14) (W : World) : Calls Tryz.prog 70 #[.int .i64 (n : Int)] W fun e W' => e = .returned (.int .i64 (levelJ n)) ∧ W = W' := by
  have h : n = 0 ∨ n = 1 ∨ n = 2 ∨ n = 3 ∨ n = 4 ∨ n = 5 ∨ n = 6 ∨ n = 7 ∨ n = 8 ∨ n = 9 ∨ n = 10 ∨ n = 11 ∨ n = 12 ∨ n = 13 ∨ n = 14 := by omega
  rcases h with rfl | rfl | rfl | rfl | rfl | rfl | rfl | rfl | rfl | rfl | rfl | rfl | rfl | rfl | rfl
  all_goals
    go_enter Tryz.func70, Tryz.ntmps70
    go_wp2
    go_ret
    exact ⟨rfl, rfl⟩
end Go.Proofs.YtjddnchenhnemaaGreatDoor.Ps
