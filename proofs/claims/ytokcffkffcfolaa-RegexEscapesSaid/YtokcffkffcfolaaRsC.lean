/-
  RegexRepeats: of a text that is repeated: star matches any number of it, plus one or more, the question mark none or one.
-/
import Derived.Test.YtokcffkffcfolaaRsB
namespace Go.Proofs.Ytokcffkffcfolaa.Rg
open Go Go.RowKit

def litRe : List Nat → Re
  | [] => .eps
  | c :: l => .cat (.set (Bs.zero.put c)) (litRe l)
theorem put_one (c d : Nat) (hc : c < 256) (hd : d < 256) : (Bs.zero.put c).has d = true ↔ d = c := by
  rw [Bs.put_has _ _ _ hc hd, Bs.zero_has, Bool.false_or, beq_iff_eq]
theorem lit_lang : ∀ (l w : List Nat), (∀ x ∈ l, x < 256) → (∀ x ∈ w, x < 256) → ((litRe l).lang w ↔ w = l)
  | [], w, _, _ => Iff.rfl
  | c :: l, w, hl, hw => by
    constructor
    · rintro ⟨u, v, rfl, ⟨d, rfl, hd⟩, hv⟩
      have h1 := (put_one c d (hl c (by simp)) (hw d (by simp))).1 hd
      have h2 := (lit_lang l v (fun x hx => hl x (by simp [hx])) (fun x hx => hw x (by simp [hx]))).1 hv
      rw [h1, h2]; rfl
    · rintro rfl
      exact ⟨[c], l, rfl, ⟨c, rfl, (put_one c c (hl c (by simp)) (hl c (by simp))).2 rfl⟩, (lit_lang l l (fun x hx => hl x (by simp [hx])) (fun x hx => hl x (by simp [hx]))).2 rfl⟩
theorem nats_lt (s : ByteArray) : ∀ x ∈ nats s, x < 256 := by
  intro x hx
  obtain ⟨c, _, rfl⟩ := List.mem_map.1 hx
  exact UInt8.toNat_lt c
def escS (s : ByteArray) : ByteArray := ⟨(escL s.data.toList).toArray⟩
theorem escS_size (s : ByteArray) : (escS s).size ≤ 2 * s.size := by
  have := escL_length s.data.toList
  rw [Array.length_toList] at this
  show (escL s.data.toList).toArray.size ≤ _
  rw [List.size_toArray]; exact this
theorem esc_pieces : ∀ l : List UInt8, G .pieces 0 ((escL l).map UInt8.toNat) (litRe (l.map UInt8.toNat))
  | [] => .none
  | c :: l => by
    have ih := esc_pieces l
    rw [escL]
    by_cases h : isSpec c = true
    · rw [if_pos h]
      have hm : c.toNat ∈ special := by simpa [isSpec] using h
      have hb : c.toNat ∈ Rd.behind := by
        simp only [special, List.mem_cons, List.not_mem_nil, or_false] at hm
        simp only [Rd.behind, List.mem_cons, List.not_mem_nil, or_false]
        omega
      exact G.one (.esc hb) ih
    · rw [if_neg h]
      have hm : c.toNat ∉ special := by simpa [isSpec] using h
      exact G.one (.byte hm) ih
theorem nats_esc (s : ByteArray) : nats (escS s) = (escL s.data.toList).map UInt8.toNat := by rw [escS, nats_lit]
theorem esc_alts (s : ByteArray) : G .alts 0 (nats (escS s)) (litRe (nats s)) := by rw [nats_esc]; exact .last (esc_pieces _)
/-- l, so often. -/
def rep : Nat → List Nat → List Nat
  | 0, _ => []
  | k + 1, l => rep k l ++ l
theorem rep_length (l : List Nat) : ∀ k, (rep k l).length = k * l.length
  | 0 => by simp [rep]
  | k + 1 => by rw [rep, List.length_append, rep_length l k, Nat.succ_mul]
theorem rep_front (l : List Nat) : ∀ k, rep (k + 1) l = l ++ rep k l
  | 0 => by simp [rep]
  | k + 1 => by
    show rep (k + 1) l ++ l = l ++ (rep k l ++ l)
    rw [rep_front l k, List.append_assoc]
theorem rep_many {L : List Nat → Prop} {l : List Nat} (h : L l) : ∀ k, Many L (rep k l)
  | 0 => .nil
  | k + 1 => by rw [rep_front]; exact .cons h (rep_many h k)
structure RepTold (x s t : ByteArray) (k : Nat) : Prop where
  e0 : errOf (x ++ { data := #[42] }) = 0
  e1 : errOf (x ++ { data := #[43] }) = 0
  e2 : errOf (x ++ { data := #[63] }) = 0
  m0 : matches_ (x ++ { data := #[42] }) t = true
  m1 : matches_ (x ++ { data := #[43] }) t = decide (0 < k)
  m2 : matches_ (x ++ { data := #[63] }) t = decide (k ≤ 1)
theorem rep_told (s t : ByteArray) (k : Nat) (hs : 0 < s.size) (h20 : s.size ≤ 20) (ht : nats t = rep k (nats s)) : RepTold ({ data := #[40] } ++ escS s ++ { data := #[41] }) s t k := by
  have hg : G .atom 1 (40 :: (nats (escS s) ++ [41])) (litRe (nats s)) := .group (esc_alts s)
  have hsz := escS_size s
  have hl : 0 < (nats s).length := by rw [nats_length]; exact hs
  have hS : ∀ c : UInt8, nats ({ data := #[40] } ++ escS s ++ { data := #[41] } ++ { data := #[c] }) = (40 :: (nats (escS s) ++ [41])) ++ [c.toNat] := fun c => by
    simp [nats_app, nats_lit]
  have hz : ∀ c : UInt8, (({ data := #[40] } : ByteArray) ++ escS s ++ { data := #[41] } ++ { data := #[c] }).size ≤ 4096 := fun c => by
    rw [← nats_length, hS]
    simp only [List.length_append, List.length_cons, List.length_nil, nats_length]; omega
  have g0 : G .alts 1 (nats ({ data := #[40] } ++ escS s ++ { data := #[41] } ++ { data := #[42] })) (.cat (.star (litRe (nats s))) .eps) := by
    rw [hS]; exact .last (.star hg .none)
  have g1 : G .alts 1 (nats ({ data := #[40] } ++ escS s ++ { data := #[41] } ++ { data := #[43] })) (.cat (.plus (litRe (nats s))) .eps) := by
    rw [hS]; exact .last (.plus hg .none)
  have g2 : G .alts 1 (nats ({ data := #[40] } ++ escS s ++ { data := #[41] } ++ { data := #[63] })) (.cat (.opt (litRe (nats s))) .eps) := by
    rw [hS]; exact .last (.opt hg .none)
  have o0 := (comp_of (hz _) g0).elim (·.1) (fun h => absurd h.2 (by decide))
  have o1 := (comp_of (hz _) g1).elim (·.1) (fun h => absurd h.2 (by decide))
  have o2 := (comp_of (hz _) g2).elim (·.1) (fun h => absurd h.2 (by decide))
  have hself : (litRe (nats s)).lang (nats s) := (lit_lang _ _ (nats_lt s) (nats_lt s)).2 rfl
  refine ⟨o0, o1, o2, ?_, ?_, ?_⟩
  · rw [lang_of o0 g0, cat_eps, ht]
    exact rep_many hself k
  · rw [Bool.eq_iff_iff, lang_of o1 g1, cat_eps, decide_eq_true_iff]
    constructor
    · rintro ⟨u, v, huv, hu, _⟩
      have h1 := nats_lt t
      rw [huv] at h1
      rw [lit_lang _ _ (nats_lt s) (fun x hx => h1 x (by simp [hx]))] at hu
      have h2 := congrArg List.length (ht.symm.trans huv)
      rw [rep_length, List.length_append, hu] at h2
      rcases Nat.eq_zero_or_pos k with h | h
      · subst h; simp at h2; omega
      · exact h
    · intro hk
      obtain ⟨j, rfl⟩ : ∃ j, k = j + 1 := ⟨k - 1, by omega⟩
      exact ⟨nats s, rep j (nats s), by rw [ht, rep_front], hself, rep_many hself j⟩
  · rw [Bool.eq_iff_iff, lang_of o2 g2, cat_eps, decide_eq_true_iff]
    constructor
    · rintro (h | h)
      · have h2 := congrArg List.length (ht.symm.trans h)
        rw [rep_length] at h2
        have : k = 0 := by
          rcases Nat.mul_eq_zero.1 h2 with h | h <;> omega
        omega
      · rw [lit_lang _ _ (nats_lt s) (nats_lt t)] at h
        have h2 := congrArg List.length (ht.symm.trans h)
        rw [rep_length] at h2
        have : k = 1 := Nat.eq_of_mul_eq_mul_right hl (by omega)
        omega
    · intro hk
      match k, hk, ht with
      | 0, _, ht => exact .inl ht
      | 1, _, ht => exact .inr (by rw [ht]; simpa [rep] using hself)

set_option maxRecDepth 100000 in
set_option maxHeartbeats 40000000 in
theorem repeats_calls (s : ByteArray) (n : Int) (hs : s.size ≤ maxLen) (hn : (Lit.int .i64 n).wf = true) (W : World) :
    Calls Try.prog 5 #[.string s, .int .i64 n] W (LawPost W) := by
  have hn' : -9223372036854775808 ≤ n ∧ n ≤ 9223372036854775807 := by simpa [Lit.wf, IntKind.min, IntKind.max, IntKind.signed, IntKind.bits] using hn
  unfold maxLen at hs
  clear hn
  go_enter Try.func5, Try.ntmps5
  go_wp2_with fail
  refine (known_calls _).mono ?_
  rintro q W1 ⟨rfl, hb1⟩
  have HB := Lib.hid hb1; clear hb1
  by_cases h0 : s.size = 0
  · have b0 : ((s.size : Int) == 0) = true := by rw [beq_iff_eq]; omega
    go_wp2_with fail
    go_ret
    exact ⟨rfl, HB.out⟩
  have b0 : ((s.size : Int) == 0) = false := by rw [beq_eq_false_iff_ne]; omega
  by_cases h1 : 20 < s.size
  · go_wp2_with fail
    go_ret
    exact ⟨rfl, HB.out⟩
  by_cases h2 : n < 0
  · go_wp2_with fail
    go_ret
    exact ⟨rfl, HB.out⟩
  by_cases h3 : 20 < n
  · go_wp2_with fail
    go_ret
    exact ⟨rfl, HB.out⟩
  obtain ⟨m, rfl⟩ : ∃ m : Nat, n = (m : Int) := ⟨n.toNat, by omega⟩
  clear hn' h2
  go_wp2_with fail
  go_loopw [6, 5] (fun i sv wr => ∃ (k : Nat) (t : ByteArray), k ≤ m ∧ i = .int .i64 (k : Int) ∧ sv = .string t ∧ nats t = rep k (nats s) ∧ Below W.heap.size W wr) (fun i _ _ => m - (intOf i).toNat)
  case atStart => exact ⟨0, _, Nat.zero_le _, rfl, rfl, rfl, HB.out⟩
  case round =>
    obtain ⟨k, t, hk, rfl, rfl, hnt, hbel⟩ := hrel
    have HBel := Lib.hid hbel; clear hbel HB
    have hts : t.size = k * s.size := by rw [← nats_length, hnt, rep_length, nats_length]
    have hts2 : t.size ≤ 400 := by
      rw [hts]
      exact Nat.mul_le_mul (show k ≤ 20 by omega) (show s.size ≤ 20 by omega)
    have HNt := Lib.hid hnt; clear hnt hts
    by_cases hkm : k < m
    · go_wp2_with fail
      go_roundw
      case rel => exact ⟨k + 1, _, by omega, by go_num, rfl, by rw [nats_app, HNt.out, rep], HBel.out⟩
      case measure => (simp [intOf] <;> omega)
    · have hke : k = m := by omega
      subst hke
      have htold := rep_told s t k (by omega) (by omega) HNt.out
      have HT := Lib.hid htold; clear htold
      have hes := escS_size s
      go_wp2_with fail
      refine (escape_calls s (by omega) _).mono ?_
      rintro q W2 ⟨rfl, hb2⟩
      replace HBel := Lib.hid (after HBel.out (Nat.le_refl _) hb2); clear hb2
      have hesd : (⟨(escL s.data.toList).toArray⟩ : ByteArray) = escS s := rfl
      rw [hesd]
      clear hesd
      obtain ⟨es, hes'⟩ : ∃ es, es = escS s := ⟨_, rfl⟩
      rw [← hes'] at HT hes ⊢
      clear hes'
      have z0 : (({ data := #[40] } : ByteArray) ++ es ++ { data := #[41] } ++ { data := #[42] }).size ≤ maxLen := by rw [app_size, app_size, app_size]; show 1 + es.size + 1 + 1 ≤ _; unfold maxLen; omega
      have z1 : (({ data := #[40] } : ByteArray) ++ es ++ { data := #[41] } ++ { data := #[43] }).size ≤ maxLen := by rw [app_size, app_size, app_size]; show 1 + es.size + 1 + 1 ≤ _; unfold maxLen; omega
      have z2 : (({ data := #[40] } : ByteArray) ++ es ++ { data := #[41] } ++ { data := #[63] }).size ≤ maxLen := by rw [app_size, app_size, app_size]; show 1 + es.size + 1 + 1 ≤ _; unfold maxLen; omega
      have zt : t.size ≤ 140737488351232 := by omega
      have Z0 := Lib.hid z0; clear z0
      have Z1 := Lib.hid z1; clear z1
      have Z2 := Lib.hid z2; clear z2
      go_wp2_with fail
      refine (comp_good HT.out.e0 _ Z0.out).mono ?_
      rintro q W3 ⟨p0, rfl, hm, hb⟩
      have M0 := Lib.hid hm; clear hm
      replace HBel := Lib.hid (after HBel.out (Nat.le_refl _) hb); clear hb
      go_wp2_with fail
      refine (comp_good HT.out.e1 _ Z1.out).mono ?_
      rintro q W4 ⟨p1, rfl, hm, hb⟩
      have M1 := Lib.hid hm; clear hm
      replace M0 := Lib.hid (M0.out.below hb)
      replace HBel := Lib.hid (after HBel.out (Nat.le_refl _) hb); clear hb
      go_wp2_with fail
      refine (comp_good HT.out.e2 _ Z2.out).mono ?_
      rintro q W5 ⟨p2, rfl, hm, hb⟩
      have M2 := Lib.hid hm; clear hm
      replace M0 := Lib.hid (M0.out.below hb)
      replace M1 := Lib.hid (M1.out.below hb)
      replace HBel := Lib.hid (after HBel.out (Nat.le_refl _) hb); clear hb
      have F0 := Lib.hid HT.out.m0
      have f1 := HT.out.m1
      have f2 := HT.out.m2
      clear HT hkm HNt h0
      rcases Nat.lt_trichotomy k 1 with h | h | h
      · have hk0 : k = 0 := by omega
        subst hk0
        have F1 := Lib.hid (f1.trans (show _ = false from rfl)); clear f1
        have F2 := Lib.hid (f2.trans (show _ = true from rfl)); clear f2
        go_wp2_with fail
        repeat
          (first
            | with_reducible refine (M0.out.match_calls (b := t) F0.out zt).mono ?_
            | with_reducible refine (M1.out.match_calls (b := t) F1.out zt).mono ?_
            | with_reducible refine (M2.out.match_calls (b := t) F2.out zt).mono ?_)
          rintro q W7 ⟨rfl, hb7⟩
          replace M0 := Lib.hid (M0.out.below hb7)
          replace M1 := Lib.hid (M1.out.below hb7)
          replace M2 := Lib.hid (M2.out.below hb7)
          replace HBel := Lib.hid (after HBel.out (Nat.le_refl _) hb7)
          clear hb7
          go_wp2_with fail
        go_ret
        exact ⟨rfl, HBel.out⟩
      · subst h
        have F1 := Lib.hid (f1.trans (show _ = true from rfl)); clear f1
        have F2 := Lib.hid (f2.trans (show _ = true from rfl)); clear f2
        go_wp2_with fail
        repeat
          (first
            | with_reducible refine (M0.out.match_calls (b := t) F0.out zt).mono ?_
            | with_reducible refine (M1.out.match_calls (b := t) F1.out zt).mono ?_
            | with_reducible refine (M2.out.match_calls (b := t) F2.out zt).mono ?_)
          rintro q W7 ⟨rfl, hb7⟩
          replace M0 := Lib.hid (M0.out.below hb7)
          replace M1 := Lib.hid (M1.out.below hb7)
          replace M2 := Lib.hid (M2.out.below hb7)
          replace HBel := Lib.hid (after HBel.out (Nat.le_refl _) hb7)
          clear hb7
          go_wp2_with fail
        go_ret
        exact ⟨rfl, HBel.out⟩
      · have F1 := Lib.hid (f1.trans (show _ = true by rw [decide_eq_true_iff]; omega)); clear f1
        have F2 := Lib.hid (f2.trans (show _ = false by rw [decide_eq_false_iff_not]; omega)); clear f2
        have b1 : decide ((k : Int) ≤ 1) = false := by rw [decide_eq_false_iff_not]; omega
        go_wp2_with fail
        repeat
          (first
            | with_reducible refine (M0.out.match_calls (b := t) F0.out zt).mono ?_
            | with_reducible refine (M1.out.match_calls (b := t) F1.out zt).mono ?_
            | with_reducible refine (M2.out.match_calls (b := t) F2.out zt).mono ?_)
          rintro q W7 ⟨rfl, hb7⟩
          replace M0 := Lib.hid (M0.out.below hb7)
          replace M1 := Lib.hid (M1.out.below hb7)
          replace M2 := Lib.hid (M2.out.below hb7)
          replace HBel := Lib.hid (after HBel.out (Nat.le_refl _) hb7)
          clear hb7
          go_wp2_with fail
        go_ret
        exact ⟨rfl, HBel.out⟩
end Go.Proofs.Ytokcffkffcfolaa.Rg
