/-
  RegexNested: the walk.
-/
import Derived.Test.YtokcffkffcfolaaRsD
namespace Go.Proofs.Ytokcffkffcfolaa.Rg
open Go Go.RowKit

set_option maxRecDepth 100000 in
set_option maxHeartbeats 40000000 in
theorem nested_calls (dd n : Int) (fin : Bool) (hdw : (Lit.int .i64 dd).wf = true) (hnw : (Lit.int .i64 n).wf = true) (W : World) :
    Calls Try.prog 6 #[.int .i64 dd, .int .i64 n, .bool fin] W (LawPost W) := by
  have hn' : -9223372036854775808 ≤ n ∧ n ≤ 9223372036854775807 := by simpa [Lit.wf, IntKind.min, IntKind.max, IntKind.signed, IntKind.bits] using hnw
  have hd' : -9223372036854775808 ≤ dd ∧ dd ≤ 9223372036854775807 := by simpa [Lit.wf, IntKind.min, IntKind.max, IntKind.signed, IntKind.bits] using hdw
  clear hnw hdw
  cases fin
  · go_enter Try.func6, Try.ntmps6
    go_wp2_with fail
    refine (known_calls _).mono ?_
    rintro q W1 ⟨rfl, hb1⟩
    have HB := Lib.hid hb1; clear hb1
    by_cases h0 : dd < 1
    · go_wp2_with fail
      go_ret
      exact ⟨rfl, HB.out⟩
    by_cases h1 : 60 < dd
    · go_wp2_with fail
      go_ret
      exact ⟨rfl, HB.out⟩
    by_cases h2 : n < 0
    · go_wp2_with fail
      go_ret
      exact ⟨rfl, HB.out⟩
    by_cases h3 : 200 < n
    · go_wp2_with fail
      go_ret
      exact ⟨rfl, HB.out⟩
    obtain ⟨m, rfl⟩ : ∃ m : Nat, n = (m : Int) := ⟨n.toNat, by omega⟩
    obtain ⟨d, rfl⟩ : ∃ d : Nat, dd = (d : Int) := ⟨dd.toNat, by omega⟩
    clear hn' hd' h2
    go_wp2_with fail
    go_loopw [8, 7] (fun i sv wr => ∃ (k : Nat) (s : ByteArray), k ≤ d ∧ i = .int .i64 (k : Int) ∧ sv = .string s ∧ nats s = opens k ∧ Below W.heap.size W wr) (fun i _ _ => d - (intOf i).toNat)
    case atStart => exact ⟨0, _, Nat.zero_le _, rfl, rfl, rfl, HB.out⟩
    case round =>
      obtain ⟨k, s, hk, rfl, rfl, hns, hbel⟩ := hrel
      have HBel := Lib.hid hbel; clear hbel HB
      have hss : s.size = k := by rw [← nats_length, hns, opens, List.length_replicate]
      have HNs := Lib.hid hns; clear hns
      by_cases hkm : k < d
      · go_wp2_with fail
        go_roundw
        case rel => exact ⟨k + 1, _, by omega, by go_num, rfl, by rw [nats_app, HNs.out, ← opens_snoc]; rfl, HBel.out⟩
        case measure => (simp [intOf] <;> omega)
      · have hke : k = d := by omega
        subst hke
        go_wp2_with fail
        go_loopw [9, 7] (fun i sv wr => ∃ (j : Nat) (s : ByteArray), j ≤ k ∧ i = .int .i64 (j : Int) ∧ sv = .string s ∧ nats s = opens k ++ [97] ++ shuts j ∧ s.size = k + 1 + 2 * j ∧ Below W.heap.size W wr) (fun i _ _ => k - (intOf i).toNat)
        case atStart => exact ⟨0, _, Nat.zero_le _, rfl, rfl, by rw [nats_app, HNs.out, shuts, List.append_nil]; rfl, by rw [app_size, hss]; rfl, HBel.out⟩
        case round =>
          obtain ⟨j, s2, hj, rfl, rfl, hns2, hs2, hbel⟩ := hrel
          replace HBel := Lib.hid hbel; clear hbel
          replace HNs := Lib.hid hns2; clear hns2
          clear hss
          by_cases hjk : j < k
          · go_wp2_with fail
            go_roundw
            case rel => exact ⟨j + 1, _, by omega, by go_num, rfl, by rw [nats_app, HNs.out, shuts, List.append_assoc]; rfl, by rw [app_size, hs2]; show _ + 2 = _; omega, HBel.out⟩
            case measure => (simp [intOf] <;> omega)
          · have hje : j = k := by omega
            subst hje
            have hns3 : nats (s2 ++ { data := #[42] }) = opens j ++ [97] ++ shuts j ++ [42] := by rw [nats_app, HNs.out]; rfl
            have ht := nest_told (by omega) hns3
            have hz3 : (s2 ++ { data := #[42] }).size ≤ maxLen := by rw [app_size, hs2]; show _ + 1 ≤ _; unfold maxLen; omega
            have HT := Lib.hid ht; clear ht hns3
            have HZ := Lib.hid hz3; clear hz3
            go_wp2_with fail
            go_loopw [11, 10] (fun i tv wr => ∃ (x : Nat) (t : ByteArray), x ≤ m ∧ i = .int .i64 (x : Int) ∧ tv = .string t ∧ nats t = rep x [97] ∧ t.size = x ∧ Below W.heap.size W wr) (fun i _ _ => m - (intOf i).toNat)
            case atStart => exact ⟨0, _, Nat.zero_le _, rfl, rfl, rfl, rfl, HBel.out⟩
            case round =>
              obtain ⟨x, t, hx, rfl, rfl, hnt, hts, hbel⟩ := hrel
              replace HBel := Lib.hid hbel; clear hbel
              have HNt := Lib.hid hnt; clear hnt
              by_cases hxm : x < m
              · go_wp2_with fail
                go_roundw
                case rel => exact ⟨x + 1, _, by omega, by go_num, rfl, by rw [nats_app, HNt.out, rep]; rfl, by rw [app_size, hts]; rfl, HBel.out⟩
                case measure => (simp [intOf] <;> omega)
              · have hxe : x = m := by omega
                subst hxe
                clear hxm HNs
                have zt : t.size ≤ 140737488351232 := by omega
                by_cases hdeep : 40 < j
                · have hsix : (6 : Nat) ≠ 0 := by decide
                  have e1 := (HT.out.deep hdeep).1
                  have e2 := (HT.out.deep hdeep).2
                  have E1 := Lib.hid e1; clear e1
                  have E2 := Lib.hid e2; clear e2
                  go_wp2_with fail
                  with_reducible refine (comp_bad E1.out E2.out hsix _ HZ.out).mono ?_
                  rintro q W3 ⟨rfl, hb⟩
                  replace HBel := Lib.hid (after HBel.out (Nat.le_refl _) hb); clear hb
                  go_wp2_with fail
                  go_ret
                  exact ⟨rfl, HBel.out⟩
                · have F := Lib.hid (HT.out.yes (by omega) t x HNt.out)
                  have E1 := Lib.hid (HT.out.ok (by omega))
                  go_wp2_with fail
                  with_reducible refine (comp_good E1.out _ HZ.out).mono ?_
                  rintro q W3 ⟨p, rfl, hm, hb⟩
                  have M := Lib.hid hm; clear hm
                  replace HBel := Lib.hid (after HBel.out (Nat.le_refl _) hb); clear hb
                  go_wp2_with fail
                  with_reducible refine (M.out.match_calls (b := t) F.out zt).mono ?_
                  rintro q W4 ⟨rfl, hb⟩
                  replace HBel := Lib.hid (after HBel.out (Nat.le_refl _) hb); clear hb
                  go_wp2_with fail
                  go_ret
                  exact ⟨rfl, HBel.out⟩
  · go_enter Try.func6, Try.ntmps6
    go_wp2_with fail
    refine (known_calls _).mono ?_
    rintro q W1 ⟨rfl, hb1⟩
    have HB := Lib.hid hb1; clear hb1
    by_cases h0 : dd < 1
    · go_wp2_with fail
      go_ret
      exact ⟨rfl, HB.out⟩
    by_cases h1 : 60 < dd
    · go_wp2_with fail
      go_ret
      exact ⟨rfl, HB.out⟩
    by_cases h2 : n < 0
    · go_wp2_with fail
      go_ret
      exact ⟨rfl, HB.out⟩
    by_cases h3 : 200 < n
    · go_wp2_with fail
      go_ret
      exact ⟨rfl, HB.out⟩
    obtain ⟨m, rfl⟩ : ∃ m : Nat, n = (m : Int) := ⟨n.toNat, by omega⟩
    obtain ⟨d, rfl⟩ : ∃ d : Nat, dd = (d : Int) := ⟨dd.toNat, by omega⟩
    clear hn' hd' h2
    go_wp2_with fail
    go_loopw [8, 7] (fun i sv wr => ∃ (k : Nat) (s : ByteArray), k ≤ d ∧ i = .int .i64 (k : Int) ∧ sv = .string s ∧ nats s = opens k ∧ Below W.heap.size W wr) (fun i _ _ => d - (intOf i).toNat)
    case atStart => exact ⟨0, _, Nat.zero_le _, rfl, rfl, rfl, HB.out⟩
    case round =>
      obtain ⟨k, s, hk, rfl, rfl, hns, hbel⟩ := hrel
      have HBel := Lib.hid hbel; clear hbel HB
      have hss : s.size = k := by rw [← nats_length, hns, opens, List.length_replicate]
      have HNs := Lib.hid hns; clear hns
      by_cases hkm : k < d
      · go_wp2_with fail
        go_roundw
        case rel => exact ⟨k + 1, _, by omega, by go_num, rfl, by rw [nats_app, HNs.out, ← opens_snoc]; rfl, HBel.out⟩
        case measure => (simp [intOf] <;> omega)
      · have hke : k = d := by omega
        subst hke
        go_wp2_with fail
        go_loopw [9, 7] (fun i sv wr => ∃ (j : Nat) (s : ByteArray), j ≤ k ∧ i = .int .i64 (j : Int) ∧ sv = .string s ∧ nats s = opens k ++ [97] ++ shuts j ∧ s.size = k + 1 + 2 * j ∧ Below W.heap.size W wr) (fun i _ _ => k - (intOf i).toNat)
        case atStart => exact ⟨0, _, Nat.zero_le _, rfl, rfl, by rw [nats_app, HNs.out, shuts, List.append_nil]; rfl, by rw [app_size, hss]; rfl, HBel.out⟩
        case round =>
          obtain ⟨j, s2, hj, rfl, rfl, hns2, hs2, hbel⟩ := hrel
          replace HBel := Lib.hid hbel; clear hbel
          replace HNs := Lib.hid hns2; clear hns2
          clear hss
          by_cases hjk : j < k
          · go_wp2_with fail
            go_roundw
            case rel => exact ⟨j + 1, _, by omega, by go_num, rfl, by rw [nats_app, HNs.out, shuts, List.append_assoc]; rfl, by rw [app_size, hs2]; show _ + 2 = _; omega, HBel.out⟩
            case measure => (simp [intOf] <;> omega)
          · have hje : j = k := by omega
            subst hje
            have hns3 : nats (s2 ++ { data := #[42] }) = opens j ++ [97] ++ shuts j ++ [42] := by rw [nats_app, HNs.out]; rfl
            have ht := nest_told (by omega) hns3
            have hz3 : (s2 ++ { data := #[42] }).size ≤ maxLen := by rw [app_size, hs2]; show _ + 1 ≤ _; unfold maxLen; omega
            have HT := Lib.hid ht; clear ht hns3
            have HZ := Lib.hid hz3; clear hz3
            go_wp2_with fail
            go_loopw [11, 10] (fun i tv wr => ∃ (x : Nat) (t : ByteArray), x ≤ m ∧ i = .int .i64 (x : Int) ∧ tv = .string t ∧ nats t = rep x [97] ∧ t.size = x ∧ Below W.heap.size W wr) (fun i _ _ => m - (intOf i).toNat)
            case atStart => exact ⟨0, _, Nat.zero_le _, rfl, rfl, rfl, rfl, HBel.out⟩
            case round =>
              obtain ⟨x, t, hx, rfl, rfl, hnt, hts, hbel⟩ := hrel
              replace HBel := Lib.hid hbel; clear hbel
              have HNt := Lib.hid hnt; clear hnt
              by_cases hxm : x < m
              · go_wp2_with fail
                go_roundw
                case rel => exact ⟨x + 1, _, by omega, by go_num, rfl, by rw [nats_app, HNt.out, rep]; rfl, by rw [app_size, hts]; rfl, HBel.out⟩
                case measure => (simp [intOf] <;> omega)
              · have hxe : x = m := by omega
                subst hxe
                clear hxm HNs
                have zt : (t ++ { data := #[98] }).size ≤ 140737488351232 := by
                  have := app_size t { data := #[98] }
                  have h1 : ({ data := #[98] } : ByteArray).size = 1 := rfl
                  omega
                by_cases hdeep : 40 < j
                · have hsix : (6 : Nat) ≠ 0 := by decide
                  have e1 := (HT.out.deep hdeep).1
                  have e2 := (HT.out.deep hdeep).2
                  have E1 := Lib.hid e1; clear e1
                  have E2 := Lib.hid e2; clear e2
                  go_wp2_with fail
                  with_reducible refine (comp_bad E1.out E2.out hsix _ HZ.out).mono ?_
                  rintro q W3 ⟨rfl, hb⟩
                  replace HBel := Lib.hid (after HBel.out (Nat.le_refl _) hb); clear hb
                  go_wp2_with fail
                  go_ret
                  exact ⟨rfl, HBel.out⟩
                · have F := Lib.hid (HT.out.no (by omega) (t ++ { data := #[98] }) x (by rw [nats_app, HNt.out]; rfl))
                  have E1 := Lib.hid (HT.out.ok (by omega))
                  go_wp2_with fail
                  with_reducible refine (comp_good E1.out _ HZ.out).mono ?_
                  rintro q W3 ⟨p, rfl, hm, hb⟩
                  have M := Lib.hid hm; clear hm
                  replace HBel := Lib.hid (after HBel.out (Nat.le_refl _) hb); clear hb
                  go_wp2_with fail
                  with_reducible refine (M.out.match_calls (b := t ++ { data := #[98] }) F.out zt).mono ?_
                  rintro q W4 ⟨rfl, hb⟩
                  replace HBel := Lib.hid (after HBel.out (Nat.le_refl _) hb); clear hb
                  go_wp2_with fail
                  go_ret
                  exact ⟨rfl, HBel.out⟩
end Go.Proofs.Ytokcffkffcfolaa.Rg
