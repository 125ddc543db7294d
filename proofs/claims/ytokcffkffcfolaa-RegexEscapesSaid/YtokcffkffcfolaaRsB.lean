/-
  RegexSets: a set in brackets matches just the bytes that it names, one at a time; with ^ just the others.
-/
import Derived.Test.YtokcffkffcfolaaRsA
namespace Go.Proofs.Ytokcffkffcfolaa.Rg
open Go Go.RowKit

/-- A slice of bytes that came in. -/
def InB (W : World) (v : Value) (l : List UInt8) : Prop :=
  (∃ c, v = .slice none 0 c ∧ l = []) ∨ ∃ (a : Addr) (cap : Nat), v = .slice (some a) l.length cap ∧ ∀ i (h : i < l.length), a.block < W.heap.size ∧ W.cell? (a.add i) = some (.int .u8 ((l[i]'h).toNat : Int))
theorem contains_snoc (c b : UInt8) : ∀ m : List UInt8, (m ++ [c]).contains b = (m.contains b || c.toNat == b.toNat)
  | [] => by
    show (b == c || false) = (false || c.toNat == b.toNat)
    rw [Bool.or_false, Bool.false_or]
    by_cases h : b = c
    · subst h; rw [beq_self_eq_true, beq_self_eq_true]
    · rw [beq_eq_false_iff_ne.2 h, beq_eq_false_iff_ne.2 (fun e => h (UInt8.toNat_inj.1 e.symm))]
  | d :: m => by rw [List.cons_append, List.contains_cons, List.contains_cons, contains_snoc c b m, Bool.or_assoc]
theorem byte_string (w : World) (c : UInt8) : (convert 29 9 (.slice (some ⟨w.heap.size, 0, none⟩) 1 1)).run Try.prog (w.alloc (.cells #[.int .u8 (c.toNat : Int)] 5)) = .ok (.string ⟨#[c]⟩) (w.alloc (.cells #[.int .u8 (c.toNat : Int)] 5)) := by
  refine run_convert_bytes_back _ _ _ 5 _ _ [c] Try.underlying29 Try.underlying5 Try.underlying9 (fun j hj => ?_)
  have h0 : j = 0 := by simp at hj; omega
  subst h0
  simp [Addr.add]

set_option maxRecDepth 100000 in
set_option maxHeartbeats 40000000 in
theorem sets_calls (v : Value) (l : List UInt8) (b : UInt8) (W : World) (hv : InB W v l) (hlm : l.length ≤ maxLen) :
    Calls Try.prog 4 #[v, .int .u8 (b.toNat : Int)] W (LawPost W) := by
  unfold maxLen at hlm
  have hbs := byte_string
  rcases hv with ⟨c, rfl, rfl⟩ | ⟨a, cap, rfl, hcells⟩
  · go_enter Try.func4, Try.ntmps4
    go_wp2_with fail
    refine (known_calls _).mono ?_
    rintro q W1 ⟨rfl, hb1⟩
    have HB := Lib.hid hb1; clear hb1
    go_wp2_with fail
    go_ret
    exact ⟨rfl, HB.out⟩
  · have HCells := Lib.hid hcells; clear hcells
    go_enter Try.func4, Try.ntmps4
    go_wp2_with fail
    refine (known_calls _).mono ?_
    rintro q W1 ⟨rfl, hb1⟩
    have HB := Lib.hid hb1; clear hb1
    by_cases h0 : l.length = 0
    · have b0 : ((l.length : Int) == 0) = true := by rw [beq_iff_eq]; omega
      go_wp2_with fail
      go_ret
      exact ⟨rfl, HB.out⟩
    have b0 : ((l.length : Int) == 0) = false := by rw [beq_eq_false_iff_ne]; omega
    by_cases h60 : 60 < l.length
    · go_wp2_with fail
      go_ret
      exact ⟨rfl, HB.out⟩
    go_wp2_with fail
    go_loopw [7, 5, 6] (fun i sv inn wr => ∃ (k : Nat) (s : ByteArray), k ≤ l.length ∧ i = .int .i64 (k : Int) ∧ sv = .string s ∧ nats s = setT (l.take k) ∧ inn = .bool ((l.take k).contains b) ∧ Below W.heap.size W wr) (fun i _ _ _ => l.length - (intOf i).toNat)
    case atStart => exact ⟨0, _, Nat.zero_le _, rfl, rfl, rfl, rfl, HB.out⟩
    case round =>
      obtain ⟨k, s, hk, rfl, rfl, hns, rfl, hbel⟩ := hrel
      have HBel := Lib.hid hbel; clear hbel HB
      have HNs := Lib.hid hns; clear hns
      have hss : s.size ≤ 2 * k := by
        have h1 := setT_length (l.take k)
        rw [← HNs.out, nats_length, List.length_take] at h1; omega
      by_cases hkl : k < l.length
      · have hcell : wr.cell? (a.add k) = some (.int .u8 ((l[k]'hkl).toNat : Int)) := by
          rw [HBel.out.cell (by unfold Addr.add; split <;> exact (HCells.out k hkl).1)]
          exact (HCells.out k hkl).2
        have htk : l.take (k + 1) = l.take k ++ [l[k]'hkl] := by rw [List.take_add_one, List.getElem?_eq_getElem hkl]; rfl
        obtain ⟨c, hc⟩ : ∃ c, c = l[k]'hkl := ⟨_, rfl⟩
        rw [← hc] at hcell htk
        clear hc
        have hsT : setT (l.take (k + 1)) = setT (l.take k) ++ (if isSet c then [92, c.toNat] else [c.toNat]) := by rw [htk, setT_app, setT, setT, List.append_nil]
        have hin : (l.take (k + 1)).contains b = ((l.take k).contains b || c.toNat == b.toNat) := by
          rw [htk, contains_snoc]
        obtain ⟨inb, hinb⟩ : ∃ inb, (l.take k).contains b = inb := ⟨_, rfl⟩
        rw [hinb] at hin ⊢
        clear hinb htk
        have HST := Lib.hid hsT; clear hsT
        cases inb
        · by_cases hcb : c.toNat = b.toNat
          · have b1 : ((c.toNat : Int) == (b.toNat : Int)) = true := by rw [beq_iff_eq]; omega
            have hin' : (l.take (k + 1)).contains b = true := by rw [hin, hcb]; simp
            have HIn := Lib.hid hin'
            clear hin hin' hcb
            by_cases hs : isSet c = true
            · have hst : setT (l.take (k + 1)) = setT (l.take k) ++ [92, c.toNat] := by rw [HST.out, if_pos hs]
              replace HST := Lib.hid hst
              clear hst
              simp only [isSet, Bool.or_eq_true, beq_iff_eq, ← UInt8.toNat_inj] at hs
              rcases hs with ((h | h) | h) | h
              · have t1 : ((c.toNat : Int) == 93) = true := by rw [beq_iff_eq, h]; rfl
                clear h
                go_wp2_with fail
                go_roundw
                case rel => exact ⟨k + 1, _, by omega, by go_num, rfl, by rw [HST.out, ← HNs.out]; simp [nats], by rw [HIn.out], HBel.out.alloc HBel.out.size _⟩
                case measure => (simp [intOf] <;> omega)
              · have t1 : ((c.toNat : Int) == 93) = false := by rw [beq_eq_false_iff_ne, h]; decide
                have t2 : ((c.toNat : Int) == 92) = true := by rw [beq_iff_eq, h]; rfl
                clear h
                go_wp2_with fail
                go_roundw
                case rel => exact ⟨k + 1, _, by omega, by go_num, rfl, by rw [HST.out, ← HNs.out]; simp [nats], by rw [HIn.out], HBel.out.alloc HBel.out.size _⟩
                case measure => (simp [intOf] <;> omega)
              · have t1 : ((c.toNat : Int) == 93) = false := by rw [beq_eq_false_iff_ne, h]; decide
                have t2 : ((c.toNat : Int) == 92) = false := by rw [beq_eq_false_iff_ne, h]; decide
                have t3 : ((c.toNat : Int) == 45) = true := by rw [beq_iff_eq, h]; rfl
                clear h
                go_wp2_with fail
                go_roundw
                case rel => exact ⟨k + 1, _, by omega, by go_num, rfl, by rw [HST.out, ← HNs.out]; simp [nats], by rw [HIn.out], HBel.out.alloc HBel.out.size _⟩
                case measure => (simp [intOf] <;> omega)
              · have t1 : ((c.toNat : Int) == 93) = false := by rw [beq_eq_false_iff_ne, h]; decide
                have t2 : ((c.toNat : Int) == 92) = false := by rw [beq_eq_false_iff_ne, h]; decide
                have t3 : ((c.toNat : Int) == 45) = false := by rw [beq_eq_false_iff_ne, h]; decide
                have t4 : ((c.toNat : Int) == 94) = true := by rw [beq_iff_eq, h]; rfl
                clear h
                go_wp2_with fail
                go_roundw
                case rel => exact ⟨k + 1, _, by omega, by go_num, rfl, by rw [HST.out, ← HNs.out]; simp [nats], by rw [HIn.out], HBel.out.alloc HBel.out.size _⟩
                case measure => (simp [intOf] <;> omega)
            · have hst : setT (l.take (k + 1)) = setT (l.take k) ++ [c.toNat] := by rw [HST.out, if_neg hs]
              replace HST := Lib.hid hst
              clear hst
              simp only [isSet, Bool.or_eq_true, beq_iff_eq, not_or, ← UInt8.toNat_inj] at hs
              obtain ⟨⟨⟨h1, h2⟩, h3⟩, h4⟩ := hs
              have t1 : ((c.toNat : Int) == 93) = false := by rw [beq_eq_false_iff_ne]; intro h; exact h1 (by rw [show (93 : UInt8).toNat = 93 from rfl]; omega)
              have t2 : ((c.toNat : Int) == 92) = false := by rw [beq_eq_false_iff_ne]; intro h; exact h2 (by rw [show (92 : UInt8).toNat = 92 from rfl]; omega)
              have t3 : ((c.toNat : Int) == 45) = false := by rw [beq_eq_false_iff_ne]; intro h; exact h3 (by rw [show (45 : UInt8).toNat = 45 from rfl]; omega)
              have t4 : ((c.toNat : Int) == 94) = false := by rw [beq_eq_false_iff_ne]; intro h; exact h4 (by rw [show (94 : UInt8).toNat = 94 from rfl]; omega)
              clear h1 h2 h3 h4
              go_wp2_with fail
              go_roundw
              case rel => exact ⟨k + 1, _, by omega, by go_num, rfl, by rw [HST.out, ← HNs.out]; simp [nats], by rw [HIn.out], HBel.out.alloc HBel.out.size _⟩
              case measure => (simp [intOf] <;> omega)
          · have b1 : ((c.toNat : Int) == (b.toNat : Int)) = false := by rw [beq_eq_false_iff_ne]; omega
            have hin' : (l.take (k + 1)).contains b = false := by rw [hin]; simpa using hcb
            have HIn := Lib.hid hin'
            clear hin hin' hcb
            by_cases hs : isSet c = true
            · have hst : setT (l.take (k + 1)) = setT (l.take k) ++ [92, c.toNat] := by rw [HST.out, if_pos hs]
              replace HST := Lib.hid hst
              clear hst
              simp only [isSet, Bool.or_eq_true, beq_iff_eq, ← UInt8.toNat_inj] at hs
              rcases hs with ((h | h) | h) | h
              · have t1 : ((c.toNat : Int) == 93) = true := by rw [beq_iff_eq, h]; rfl
                clear h
                go_wp2_with fail
                go_roundw
                case rel => exact ⟨k + 1, _, by omega, by go_num, rfl, by rw [HST.out, ← HNs.out]; simp [nats], by rw [HIn.out], HBel.out.alloc HBel.out.size _⟩
                case measure => (simp [intOf] <;> omega)
              · have t1 : ((c.toNat : Int) == 93) = false := by rw [beq_eq_false_iff_ne, h]; decide
                have t2 : ((c.toNat : Int) == 92) = true := by rw [beq_iff_eq, h]; rfl
                clear h
                go_wp2_with fail
                go_roundw
                case rel => exact ⟨k + 1, _, by omega, by go_num, rfl, by rw [HST.out, ← HNs.out]; simp [nats], by rw [HIn.out], HBel.out.alloc HBel.out.size _⟩
                case measure => (simp [intOf] <;> omega)
              · have t1 : ((c.toNat : Int) == 93) = false := by rw [beq_eq_false_iff_ne, h]; decide
                have t2 : ((c.toNat : Int) == 92) = false := by rw [beq_eq_false_iff_ne, h]; decide
                have t3 : ((c.toNat : Int) == 45) = true := by rw [beq_iff_eq, h]; rfl
                clear h
                go_wp2_with fail
                go_roundw
                case rel => exact ⟨k + 1, _, by omega, by go_num, rfl, by rw [HST.out, ← HNs.out]; simp [nats], by rw [HIn.out], HBel.out.alloc HBel.out.size _⟩
                case measure => (simp [intOf] <;> omega)
              · have t1 : ((c.toNat : Int) == 93) = false := by rw [beq_eq_false_iff_ne, h]; decide
                have t2 : ((c.toNat : Int) == 92) = false := by rw [beq_eq_false_iff_ne, h]; decide
                have t3 : ((c.toNat : Int) == 45) = false := by rw [beq_eq_false_iff_ne, h]; decide
                have t4 : ((c.toNat : Int) == 94) = true := by rw [beq_iff_eq, h]; rfl
                clear h
                go_wp2_with fail
                go_roundw
                case rel => exact ⟨k + 1, _, by omega, by go_num, rfl, by rw [HST.out, ← HNs.out]; simp [nats], by rw [HIn.out], HBel.out.alloc HBel.out.size _⟩
                case measure => (simp [intOf] <;> omega)
            · have hst : setT (l.take (k + 1)) = setT (l.take k) ++ [c.toNat] := by rw [HST.out, if_neg hs]
              replace HST := Lib.hid hst
              clear hst
              simp only [isSet, Bool.or_eq_true, beq_iff_eq, not_or, ← UInt8.toNat_inj] at hs
              obtain ⟨⟨⟨h1, h2⟩, h3⟩, h4⟩ := hs
              have t1 : ((c.toNat : Int) == 93) = false := by rw [beq_eq_false_iff_ne]; intro h; exact h1 (by rw [show (93 : UInt8).toNat = 93 from rfl]; omega)
              have t2 : ((c.toNat : Int) == 92) = false := by rw [beq_eq_false_iff_ne]; intro h; exact h2 (by rw [show (92 : UInt8).toNat = 92 from rfl]; omega)
              have t3 : ((c.toNat : Int) == 45) = false := by rw [beq_eq_false_iff_ne]; intro h; exact h3 (by rw [show (45 : UInt8).toNat = 45 from rfl]; omega)
              have t4 : ((c.toNat : Int) == 94) = false := by rw [beq_eq_false_iff_ne]; intro h; exact h4 (by rw [show (94 : UInt8).toNat = 94 from rfl]; omega)
              clear h1 h2 h3 h4
              go_wp2_with fail
              go_roundw
              case rel => exact ⟨k + 1, _, by omega, by go_num, rfl, by rw [HST.out, ← HNs.out]; simp [nats], by rw [HIn.out], HBel.out.alloc HBel.out.size _⟩
              case measure => (simp [intOf] <;> omega)
        · have b1 := Lib.hid (rfl : k = k)
          have hcb : True := trivial
          have hin' : (l.take (k + 1)).contains b = true := by rw [hin]; rfl
          have HIn := Lib.hid hin'
          clear hin hin' hcb
          by_cases hs : isSet c = true
          · have hst : setT (l.take (k + 1)) = setT (l.take k) ++ [92, c.toNat] := by rw [HST.out, if_pos hs]
            replace HST := Lib.hid hst
            clear hst
            simp only [isSet, Bool.or_eq_true, beq_iff_eq, ← UInt8.toNat_inj] at hs
            rcases hs with ((h | h) | h) | h
            · have t1 : ((c.toNat : Int) == 93) = true := by rw [beq_iff_eq, h]; rfl
              clear h
              go_wp2_with fail
              go_roundw
              case rel => exact ⟨k + 1, _, by omega, by go_num, rfl, by rw [HST.out, ← HNs.out]; simp [nats], by rw [HIn.out], HBel.out.alloc HBel.out.size _⟩
              case measure => (simp [intOf] <;> omega)
            · have t1 : ((c.toNat : Int) == 93) = false := by rw [beq_eq_false_iff_ne, h]; decide
              have t2 : ((c.toNat : Int) == 92) = true := by rw [beq_iff_eq, h]; rfl
              clear h
              go_wp2_with fail
              go_roundw
              case rel => exact ⟨k + 1, _, by omega, by go_num, rfl, by rw [HST.out, ← HNs.out]; simp [nats], by rw [HIn.out], HBel.out.alloc HBel.out.size _⟩
              case measure => (simp [intOf] <;> omega)
            · have t1 : ((c.toNat : Int) == 93) = false := by rw [beq_eq_false_iff_ne, h]; decide
              have t2 : ((c.toNat : Int) == 92) = false := by rw [beq_eq_false_iff_ne, h]; decide
              have t3 : ((c.toNat : Int) == 45) = true := by rw [beq_iff_eq, h]; rfl
              clear h
              go_wp2_with fail
              go_roundw
              case rel => exact ⟨k + 1, _, by omega, by go_num, rfl, by rw [HST.out, ← HNs.out]; simp [nats], by rw [HIn.out], HBel.out.alloc HBel.out.size _⟩
              case measure => (simp [intOf] <;> omega)
            · have t1 : ((c.toNat : Int) == 93) = false := by rw [beq_eq_false_iff_ne, h]; decide
              have t2 : ((c.toNat : Int) == 92) = false := by rw [beq_eq_false_iff_ne, h]; decide
              have t3 : ((c.toNat : Int) == 45) = false := by rw [beq_eq_false_iff_ne, h]; decide
              have t4 : ((c.toNat : Int) == 94) = true := by rw [beq_iff_eq, h]; rfl
              clear h
              go_wp2_with fail
              go_roundw
              case rel => exact ⟨k + 1, _, by omega, by go_num, rfl, by rw [HST.out, ← HNs.out]; simp [nats], by rw [HIn.out], HBel.out.alloc HBel.out.size _⟩
              case measure => (simp [intOf] <;> omega)
          · have hst : setT (l.take (k + 1)) = setT (l.take k) ++ [c.toNat] := by rw [HST.out, if_neg hs]
            replace HST := Lib.hid hst
            clear hst
            simp only [isSet, Bool.or_eq_true, beq_iff_eq, not_or, ← UInt8.toNat_inj] at hs
            obtain ⟨⟨⟨h1, h2⟩, h3⟩, h4⟩ := hs
            have t1 : ((c.toNat : Int) == 93) = false := by rw [beq_eq_false_iff_ne]; intro h; exact h1 (by rw [show (93 : UInt8).toNat = 93 from rfl]; omega)
            have t2 : ((c.toNat : Int) == 92) = false := by rw [beq_eq_false_iff_ne]; intro h; exact h2 (by rw [show (92 : UInt8).toNat = 92 from rfl]; omega)
            have t3 : ((c.toNat : Int) == 45) = false := by rw [beq_eq_false_iff_ne]; intro h; exact h3 (by rw [show (45 : UInt8).toNat = 45 from rfl]; omega)
            have t4 : ((c.toNat : Int) == 94) = false := by rw [beq_eq_false_iff_ne]; intro h; exact h4 (by rw [show (94 : UInt8).toNat = 94 from rfl]; omega)
            clear h1 h2 h3 h4
            go_wp2_with fail
            go_roundw
            case rel => exact ⟨k + 1, _, by omega, by go_num, rfl, by rw [HST.out, ← HNs.out]; simp [nats], by rw [HIn.out], HBel.out.alloc HBel.out.size _⟩
            case measure => (simp [intOf] <;> omega)
      · have hke : k = l.length := by omega
        have hlt : l.take k = l := by rw [hke]; exact List.take_length
        rw [hlt] at HNs ⊢
        have hne : l ≠ [] := by intro h; rw [h] at h0; exact h0 rfl
        have htold := fun x y hx hy => sets_told (x := x) (y := y) b hne hx hy (by omega)
        have hX := htold (({ data := #[91] } : ByteArray) ++ s ++ { data := #[93] }) (({ data := #[91, 94] } : ByteArray) ++ s ++ { data := #[93] }) (by rw [nats_app, nats_app, HNs.out]; rfl) (by rw [nats_app, nats_app, HNs.out]; rfl)
        have HX := Lib.hid hX
        clear hX htold hlt
        obtain ⟨inb, hinb⟩ : ∃ inb, l.contains b = inb := ⟨_, rfl⟩
        rw [hinb]
        have HInb := Lib.hid hinb; clear hinb
        go_wp2_with fail
        refine (comp_good HX.out.okx _ (by rw [app_size, app_size]; show 1 + s.size + 1 ≤ _; unfold maxLen; omega)).mono ?_
        rintro q W2 ⟨px, rfl, hm2, hb2⟩
        have HM := Lib.hid hm2; clear hm2
        replace HBel := Lib.hid (after HBel.out (Nat.le_refl _) hb2); clear hb2
        go_wp2_with fail
        refine (comp_good HX.out.oky _ (by rw [app_size, app_size]; show 2 + s.size + 1 ≤ _; unfold maxLen; omega)).mono ?_
        rintro q W3 ⟨py, rfl, hm3, hb3⟩
        replace HM := Lib.hid (HM.out.below hb3)
        have HM2 := Lib.hid hm3; clear hm3
        replace HBel := Lib.hid (after HBel.out (Nat.le_refl _) hb3); clear hb3
        have f1 := HX.out.is
        have f2 := HX.out.isnt
        rw [HInb.out] at f1 f2
        have F1 := Lib.hid f1; clear f1
        have F2 := Lib.hid f2; clear f2
        have F3 := Lib.hid HX.out.zero
        have F4 := Lib.hid HX.out.two
        clear HX b0 h0 hne
        cases inb
        · go_wp2_with fail
          have z0 : ({ data := #[] } : ByteArray).size ≤ 140737488351232 := by decide
          have z1 : ({ data := #[b] } : ByteArray).size ≤ 140737488351232 := by show 1 ≤ _; decide
          have z2 : (({ data := #[b] } : ByteArray) ++ { data := #[b] }).size ≤ 140737488351232 := by rw [app_size]; show 1 + 1 ≤ _; decide
          replace HM := Lib.hid (HM.out.below ((Below.refl _ _).alloc (Nat.le_refl _) (.cells #[.int .u8 (b.toNat : Int)] 5)))
          replace HM2 := Lib.hid (HM2.out.below ((Below.refl _ _).alloc (Nat.le_refl _) (.cells #[.int .u8 (b.toNat : Int)] 5)))
          replace HBel := Lib.hid (HBel.out.alloc HBel.out.size (.cells #[.int .u8 (b.toNat : Int)] 5))
          repeat
            (first
              | with_reducible refine (HM.out.match_calls (b := ⟨#[b]⟩) F1.out z1).mono ?_
              | with_reducible refine (HM2.out.match_calls (b := ⟨#[b]⟩) F2.out z1).mono ?_
              | with_reducible refine (HM.out.match_calls (b := { data := #[] }) F3.out z0).mono ?_
              | with_reducible refine (HM.out.match_calls (b := ⟨#[b]⟩ ++ ⟨#[b]⟩) F4.out z2).mono ?_)
            rintro q W7 ⟨rfl, hb7⟩
            replace HM := Lib.hid (HM.out.below hb7)
            replace HM2 := Lib.hid (HM2.out.below hb7)
            replace HBel := Lib.hid (after HBel.out (Nat.le_refl _) hb7)
            clear hb7
            go_wp2_with fail
          go_ret
          exact ⟨rfl, HBel.out⟩
        · go_wp2_with fail
          have z0 : ({ data := #[] } : ByteArray).size ≤ 140737488351232 := by decide
          have z1 : ({ data := #[b] } : ByteArray).size ≤ 140737488351232 := by show 1 ≤ _; decide
          have z2 : (({ data := #[b] } : ByteArray) ++ { data := #[b] }).size ≤ 140737488351232 := by rw [app_size]; show 1 + 1 ≤ _; decide
          replace HM := Lib.hid (HM.out.below ((Below.refl _ _).alloc (Nat.le_refl _) (.cells #[.int .u8 (b.toNat : Int)] 5)))
          replace HM2 := Lib.hid (HM2.out.below ((Below.refl _ _).alloc (Nat.le_refl _) (.cells #[.int .u8 (b.toNat : Int)] 5)))
          replace HBel := Lib.hid (HBel.out.alloc HBel.out.size (.cells #[.int .u8 (b.toNat : Int)] 5))
          repeat
            (first
              | with_reducible refine (HM.out.match_calls (b := ⟨#[b]⟩) F1.out z1).mono ?_
              | with_reducible refine (HM2.out.match_calls (b := ⟨#[b]⟩) F2.out z1).mono ?_
              | with_reducible refine (HM.out.match_calls (b := { data := #[] }) F3.out z0).mono ?_
              | with_reducible refine (HM.out.match_calls (b := ⟨#[b]⟩ ++ ⟨#[b]⟩) F4.out z2).mono ?_)
            rintro q W7 ⟨rfl, hb7⟩
            replace HM := Lib.hid (HM.out.below hb7)
            replace HM2 := Lib.hid (HM2.out.below hb7)
            replace HBel := Lib.hid (after HBel.out (Nat.le_refl _) hb7)
            clear hb7
            go_wp2_with fail
          go_ret
          exact ⟨rfl, HBel.out⟩
/-- A slice of bytes, as the statement's reading gives it. -/
theorem inB_of {W : World} {a : Addr} {len cap : Nat} {zs : List Int} (hl : len ≤ zs.length) (hc : ∀ i, i < zs.length → W.cell? (a.add i) = some (.int .u8 (zs.getD i 0))) (hw : ∀ n ∈ zs, (Lit.int .u8 n).wf = true) :
    ∃ l : List UInt8, l.length = len ∧ InB W (.slice (some a) len cap) l := by
  have hlen : ((zs.take len).map fun n => UInt8.ofNat n.toNat).length = len := by rw [List.length_map, List.length_take]; omega
  refine ⟨(zs.take len).map fun n => UInt8.ofNat n.toNat, hlen, .inr ⟨a, cap, by rw [hlen], fun i h => ?_⟩⟩
  rw [hlen] at h
  have hz : i < zs.length := by omega
  have hci := hc i hz
  have hn := hw _ (List.getElem_mem hz)
  have hn' : 0 ≤ zs[i] ∧ zs[i] ≤ 255 := by simpa [Lit.wf, IntKind.min, IntKind.max, IntKind.signed, IntKind.bits] using hn
  refine ⟨?_, ?_⟩
  · apply Classical.byContradiction
    intro hge
    have hnone : W.heap[(a.add i).block]? = none := by
      have : (a.add i).block = a.block := by unfold Addr.add; split <;> rfl
      rw [this, Array.getElem?_eq_none]; omega
    simp only [World.cell?, hnone] at hci
    cases hci
  · rw [hci]
    simp only [List.getElem_map, List.getElem_take, List.getD, List.getElem?_eq_getElem hz, Option.getD_some, UInt8.toNat_ofNat']
    congr 2
    omega
theorem byte_of {n : Int} (hn : (Lit.int .u8 n).wf = true) : n = ((UInt8.ofNat n.toNat).toNat : Int) := by
  have hn' : 0 ≤ n ∧ n ≤ 255 := by simpa [Lit.wf, IntKind.min, IntKind.max, IntKind.signed, IntKind.bits] using hn
  rw [UInt8.toNat_ofNat']
  omega
end Go.Proofs.Ytokcffkffcfolaa.Rg
