/-
  Sets in brackets, plainly: which bytes they hold.
-/
import Derived.Test.YtokcffkffcfolaaRgZ
namespace Go.Proofs.Ytokcffkffcfolaa.Rg
open Go Go.RowKit

theorem Bs.word_setWord (S : Bs) (i j v : Nat) (hi : i < 4) (hj : j < 4) : (S.setWord i v).word j = if j = i then v else S.word j := by
  match i, hi, j, hj with
  | 0, _, 0, _ => rfl
  | 0, _, 1, _ => rfl
  | 0, _, 2, _ => rfl
  | 0, _, 3, _ => rfl
  | 1, _, 0, _ => rfl
  | 1, _, 1, _ => rfl
  | 1, _, 2, _ => rfl
  | 1, _, 3, _ => rfl
  | 2, _, 0, _ => rfl
  | 2, _, 1, _ => rfl
  | 2, _, 2, _ => rfl
  | 2, _, 3, _ => rfl
  | 3, _, 0, _ => rfl
  | 3, _, 1, _ => rfl
  | 3, _, 2, _ => rfl
  | 3, _, 3, _ => rfl
theorem Bs.put_has (S : Bs) (c d : Nat) (hc : c < 256) (hd : d < 256) : (S.put c).has d = (S.has d || d == c) := by
  have h1 : c / 64 < 4 := by omega
  have h2 : d / 64 < 4 := by omega
  rw [Bs.has, Bs.put, Bs.word_setWord _ _ _ _ h1 h2, Bs.has]
  by_cases hw : d / 64 = c / 64
  · rw [if_pos hw, Nat.testBit_or, Nat.testBit_two_pow, hw]
    congr 1
    rw [Bool.eq_iff_iff]
    simp
    omega
  · rw [if_neg hw]
    have : (d == c) = false := by rw [beq_eq_false_iff_ne]; intro h; subst h; exact hw rfl
    rw [this, Bool.or_false]
theorem Bs.neg_has (S : Bs) (h : S.ok) (d : Nat) (hd : d < 256) : S.neg.has d = !S.has d := by
  obtain ⟨h0, h1, h2, h3⟩ := h
  have key : ∀ w i, w < 18446744073709551616 → i < 64 → (18446744073709551615 - w).testBit i = !w.testBit i := fun w i hw hi => by
    have := Nat.testBit_two_pow_sub_succ (n := 64) (x := w) hw i
    rw [show 2 ^ 64 - (w + 1) = 18446744073709551615 - w by omega] at this
    rw [this]; simp [hi]
  have hm : d % 64 < 64 := Nat.mod_lt _ (by decide)
  have hq : d / 64 < 4 := by omega
  unfold Bs.has Bs.neg Bs.word
  generalize d / 64 = q at hq ⊢
  match q, hq with
  | 0, _ => exact key _ _ h0 hm
  | 1, _ => exact key _ _ h1 hm
  | 2, _ => exact key _ _ h2 hm
  | 3, _ => exact key _ _ h3 hm
theorem Bs.zero_has (d : Nat) : Bs.zero.has d = false := by
  unfold Bs.has Bs.zero Bs.word
  split <;> exact Nat.zero_testBit _
def isSet (c : UInt8) : Bool := c == 93 || c == 92 || c == 45 || c == 94
def setT : List UInt8 → List Nat
  | [] => []
  | c :: l => (if isSet c then [92, c.toNat] else [c.toNat]) ++ setT l
theorem setT_app : ∀ (a b : List UInt8), setT (a ++ b) = setT a ++ setT b
  | [], b => rfl
  | c :: a, b => by rw [List.cons_append, setT, setT, setT_app a b, List.append_assoc]
theorem setT_length : ∀ (a : List UInt8), (setT a).length ≤ 2 * a.length
  | [] => Nat.le_refl _
  | c :: a => by
    have := setT_length a
    rw [setT]
    split <;> simp <;> omega
def setB : Bs → List UInt8 → Bs
  | S, [] => S
  | S, c :: l => setB (S.put c.toNat) l
theorem setB_ok : ∀ (l : List UInt8) (S : Bs), S.ok → (setB S l).ok
  | [], _, h => h
  | _ :: l, _, h => setB_ok l _ (Bs.put_ok h _)
theorem setB_has : ∀ (l : List UInt8) (S : Bs) (d : UInt8), (setB S l).has d.toNat = (S.has d.toNat || l.contains d)
  | [], S, d => by simp [setB]
  | c :: l, S, d => by
    rw [setB, setB_has l, Bs.put_has _ _ _ (UInt8.toNat_lt c) (UInt8.toNat_lt d), List.contains_cons, Bool.or_assoc]
    congr 2
    rw [Bool.eq_iff_iff]
    simp [UInt8.toNat_inj]
theorem set_itm (c : UInt8) : Itm (if isSet c then [92, c.toNat] else [c.toNat]) c.toNat := by
  split
  · rename_i h
    refine .esc ?_
    simp only [isSet, Bool.or_eq_true, beq_iff_eq] at h
    rcases h with ((rfl | rfl) | rfl) | rfl <;> decide
  · rename_i h
    simp only [isSet, Bool.or_eq_true, beq_iff_eq, not_or, ← UInt8.toNat_inj] at h
    obtain ⟨⟨⟨h1, h2⟩, h3⟩, h4⟩ := h
    exact .plain h2 h1 h3 h4
theorem set_its : ∀ (l : List UInt8) (S : Bs), l ≠ [] → Its (setT l) S (setB S l)
  | [], _, h => absurd rfl h
  | [c], S, _ => by
    have := Its.last (S := S) (Rng.one (set_itm c))
    rw [setT, setT, List.append_nil]
    rw [show S.putRange c.toNat c.toNat = S.put c.toNat by unfold Bs.putRange; rw [show c.toNat + 1 - c.toNat = 1 by omega]; rfl] at this
    exact this
  | c :: d :: l, S, _ => by
    have := Its.more (S := S) (Rng.one (set_itm c)) (by
      rw [show S.putRange c.toNat c.toNat = S.put c.toNat by unfold Bs.putRange; rw [show c.toNat + 1 - c.toNat = 1 by omega]; rfl]
      exact set_its (d :: l) (S.put c.toNat) (by simp))
    exact this
theorem set_lang (S : Bs) (w : List Nat) : (Re.cat (.set S) .eps).lang w ↔ ∃ c, w = [c] ∧ S.has c = true := cat_eps _ _
/-- What the two sets' patterns are, by the bytes l. -/
structure SetsTold (x y : ByteArray) (l : List UInt8) (b : UInt8) : Prop where
  okx : errOf x = 0
  oky : errOf y = 0
  is : matches_ x ⟨#[b]⟩ = l.contains b
  isnt : matches_ y ⟨#[b]⟩ = !l.contains b
  zero : matches_ x { data := #[] } = false
  two : matches_ x (⟨#[b]⟩ ++ ⟨#[b]⟩) = false
theorem sets_told {x y : ByteArray} {l : List UInt8} (b : UInt8) (hl : l ≠ []) (hx : nats x = 91 :: (setT l ++ [93])) (hy : nats y = 91 :: 94 :: (setT l ++ [93])) (h60 : l.length ≤ 60) : SetsTold x y l b := by
  have hi := set_its l .zero hl
  have hsl := setT_length l
  have hX : G .alts 0 (nats x) (.cat (.set (setB .zero l)) .eps) := by
    rw [hx]
    have := G.last (G.one (G.cls (k := 0) (.is hi)) .none)
    simpa using this
  have hY : G .alts 0 (nats y) (.cat (.set (setB .zero l).neg) .eps) := by
    rw [hy]
    have := G.last (G.one (G.cls (k := 0) (.isnt hi)) .none)
    simpa using this
  have sx : x.size ≤ 4096 := by rw [← nats_length, hx]; simp; omega
  have sy : y.size ≤ 4096 := by rw [← nats_length, hy]; simp; omega
  have ox : errOf x = 0 := by rcases comp_of sx hX with h | h <;> omega
  have oy : errOf y = 0 := by rcases comp_of sy hY with h | h <;> omega
  have hb := setB_has l .zero b
  rw [Bs.zero_has, Bool.false_or] at hb
  have n1 : nats ⟨#[b]⟩ = [b.toNat] := by simp [nats]
  refine ⟨ox, oy, ?_, ?_, ?_, ?_⟩
  · rw [Bool.eq_iff_iff, lang_of ox hX, set_lang, n1, ← hb]
    exact ⟨fun ⟨c, h1, h2⟩ => by rw [List.cons.injEq] at h1; rw [h1.1]; exact h2, fun h => ⟨_, rfl, h⟩⟩
  · rw [Bool.eq_iff_iff, lang_of oy hY, set_lang, n1, ← hb, ← Bs.neg_has _ (setB_ok l _ Bs.zero_ok) _ (UInt8.toNat_lt b)]
    exact ⟨fun ⟨c, h1, h2⟩ => by rw [List.cons.injEq] at h1; rw [h1.1]; exact h2, fun h => ⟨_, rfl, h⟩⟩
  · rw [← Bool.not_eq_true, lang_of ox hX, set_lang]
    rintro ⟨c, h1, _⟩
    simp [nats] at h1
  · rw [← Bool.not_eq_true, lang_of ox hX, set_lang, nats_app, n1]
    rintro ⟨c, h1, _⟩
    simp at h1
end Go.Proofs.Ytokcffkffcfolaa.Rg
