/-
  RegexNested: stars within stars, as deep as there may be: plain facts and the walk.
-/
import Derived.Test.YtokcffkffcfolaaRsC
namespace Go.Proofs.Ytokcffkffcfolaa.Rg
open Go Go.RowKit

/-- d brackets that open, the letter a, d times a star and a bracket that closes. -/
def nest : Nat → List Nat
  | 0 => [97]
  | d + 1 => 40 :: (nest d ++ [42, 41])
def opens (d : Nat) : List Nat := List.replicate d 40
def shuts : Nat → List Nat
  | 0 => []
  | d + 1 => shuts d ++ [42, 41]
theorem nest_eq : ∀ d, nest d = opens d ++ [97] ++ shuts d
  | 0 => rfl
  | d + 1 => by
    rw [nest, nest_eq d, shuts, opens, opens, List.replicate_succ]
    simp
def nestRe : Nat → Re
  | 0 => .set (Bs.zero.put 97)
  | d + 1 => .cat (.star (nestRe d)) .eps
theorem nest_G : ∀ d, G .atom d (nest d) (nestRe d)
  | 0 => .byte (by decide)
  | d + 1 => by
    have h : G .alts d (nest d ++ 42 :: []) (.cat (.star (nestRe d)) .eps) := .last (.star (nest_G d) .none)
    have := G.group h
    simpa [nest, nestRe] using this
theorem nest_alts (d : Nat) : G .alts d (nest d ++ [42]) (.cat (.star (nestRe d)) .eps) := .last (.star (nest_G d) .none)
theorem many_one {L : List Nat → Prop} {w : List Nat} (h : L w) : Many L w := by
  have := Many.cons h Many.nil
  simpa using this
/-- Each letter a is taken, at any depth. -/
theorem nest_a : ∀ d, (nestRe d).lang [97]
  | 0 => ⟨97, rfl, (put_one 97 97 (by decide) (by decide)).2 rfl⟩
  | d + 1 => (cat_eps _ _).2 (many_one (nest_a d))
/-- Nothing but the letter a is taken. -/
theorem nest_only : ∀ d w, (∀ x ∈ w, x < 256) → (nestRe d).lang w → ∀ x ∈ w, x = 97
  | 0, w, hw, h => by
    obtain ⟨c, rfl, hc⟩ := h
    intro x hx
    rw [List.mem_singleton] at hx
    subst hx
    exact (put_one 97 x (by decide) (hw x (by simp))).1 hc
  | d + 1, w, hw, h => by
    have hm : Many (nestRe d).lang w := (cat_eps _ _).1 h
    clear h
    induction hm with
    | nil => intro x hx; cases hx
    | cons hu _ ih =>
      intro x hx
      rcases List.mem_append.1 hx with hx | hx
      · exact nest_only d _ (fun y hy => hw y (by simp [hy])) hu x hx
      · exact ih (fun y hy => hw y (by simp [hy])) x hx
theorem rep_a (k : Nat) : rep k [97] = List.replicate k 97 := by
  induction k with
  | zero => rfl
  | succ k ih => rw [rep_front, ih, List.replicate_succ]; rfl

/-! Too deep. -/
theorem deep_atom (grp : Rd → Rd) {r : Rd} {t : List Nat} (h : Rdy r (40 :: t)) : r.atom grp = grp r := by
  rw [Rd.atom, h.cur, if_neg (by decide), if_pos rfl]
/-- Where the brackets that open are more than there may be. -/
theorem deep_group : ∀ (k : Nat) (r : Rd) (t : List Nat), Rdy r (opens (k + 1) ++ t) → (Rd.group k r).err = 6 ∧ (Rd.group k r).bad = r.at_ + k
  | 0, r, t, h => by
    show (r.fail 6 r.at_).err = 6 ∧ (r.fail 6 r.at_).bad = _
    rw [Rd.fail, if_pos h.err]; exact ⟨rfl, rfl⟩
  | k + 1, r, t, h => by
    have h' : Rdy r (40 :: (opens (k + 1) ++ t)) := h
    have ho := h'.opened
    have hp := deep_pieces k r.opened t ho
    have hne : (Rd.pieces (Rd.group k) r.opened.fuel r.opened).err ≠ 0 := by rw [hp.1]; decide
    have hfu : ∃ n, r.opened.fuel = n + 1 := ⟨_, ho.fuel⟩
    obtain ⟨n, hn⟩ := hfu
    have ha : Rd.altsR (Rd.group k) r.opened.fuel r.opened = Rd.pieces (Rd.group k) r.opened.fuel r.opened := by
      rw [hn, Rd.altsR, if_neg (by simp [Rd.isB, Rd.has, hne]), hn]
    have he : ((Rd.alts (Rd.group k) r.opened).withDeep r.deep).err = 6 := by
      show (Rd.altsR (Rd.group k) r.opened.fuel r.opened).err = 6
      rw [ha]; exact hp.1
    have hb : ((Rd.alts (Rd.group k) r.opened).withDeep r.deep).bad = r.at_ + (k + 1) := by
      show (Rd.altsR (Rd.group k) r.opened.fuel r.opened).bad = _
      rw [ha, hp.2]
      show r.at_ + 1 + k = _
      omega
    have hnb : ((Rd.alts (Rd.group k) r.opened).withDeep r.deep).isB 41 = false := by simp [Rd.isB, Rd.has, he]
    rw [Rd.group, if_neg (by rw [hnb]; simp), Rd.fail, if_neg (by rw [he]; decide)]
    exact ⟨he, hb⟩
where
  deep_pieces (k : Nat) (r : Rd) (t : List Nat) (h : Rdy r (opens (k + 1) ++ t)) : (Rd.pieces (Rd.group k) r.fuel r).err = 6 ∧ (Rd.pieces (Rd.group k) r.fuel r).bad = r.at_ + k := by
    have h' : Rdy r (40 :: (opens k ++ t)) := h
    obtain ⟨n, hn⟩ : ∃ n, r.fuel = n + 1 := ⟨_, h'.fuel⟩
    have hd := deep_group k r t h
    rw [hn, Rd.pieces, if_neg (by rw [h'.no_stop (by decide) (by decide)]; simp), if_neg (by rw [h'.an_atom (by decide) (by decide) (by decide) (by decide)]; simp), deep_atom _ h']
    have hne : (Rd.group k r).err ≠ 0 := by rw [hd.1]; decide
    rw [many_bad hne, pieces_bad _ hne]
    exact hd
theorem deep_err {s : ByteArray} {t : List Nat} (hs : s.size ≤ 4096) (h : nats s = opens 41 ++ t) : errOf s = 6 ∧ badOf s = 40 := by
  have hr := start_rdy s
  rw [h] at hr
  have hp := deep_group.deep_pieces 40 (start s) t hr
  have hne : (Rd.pieces (Rd.group 40) (start s).fuel (start s)).err ≠ 0 := by rw [hp.1]; decide
  obtain ⟨n, hn⟩ : ∃ n, (start s).fuel = n + 1 := ⟨_, (start_rdy s).fuel⟩
  have ha : Rd.altsR (Rd.group 40) (start s).fuel (start s) = Rd.pieces (Rd.group 40) (start s).fuel (start s) := by
    rw [hn, Rd.altsR, if_neg (by simp [Rd.isB, Rd.has, hne]), hn]
  have he : (read s).err = 6 := by
    show (Rd.altsR (Rd.group 40) (start s).fuel (start s)).err = 6
    rw [ha]; exact hp.1
  have hb : (read s).bad = 40 := by
    show (Rd.altsR (Rd.group 40) (start s).fuel (start s)).bad = 40
    rw [ha, hp.2]; rfl
  have hre : readEnd s = read s := by
    unfold readEnd
    split
    · rw [Rd.fail, if_neg (by rw [he]; decide)]
    · rfl
  exact ⟨by rw [errOf, if_neg (by omega), hre, he], by rw [badOf, if_neg (by omega), hre, if_neg (by rw [he]; decide), hb]⟩
/-- What the nested pattern is. -/
structure NestTold (s : ByteArray) (d : Nat) : Prop where
  deep : 40 < d → errOf s = 6 ∧ badOf s = 40
  ok : d ≤ 40 → errOf s = 0
  yes : d ≤ 40 → ∀ t k, nats t = rep k [97] → matches_ s t = true
  no : d ≤ 40 → ∀ t k, nats t = rep k [97] ++ [98] → matches_ s t = false
theorem nest_told {s : ByteArray} {d : Nat} (hd : d ≤ 60) (hs : nats s = opens d ++ [97] ++ shuts d ++ [42]) : NestTold s d := by
  have hsh : ∀ k, (shuts k).length = 2 * k := by
    intro k
    induction k with
    | zero => rfl
    | succ k ih => rw [shuts, List.length_append, ih]; simp; omega
  have hsz : s.size ≤ 4096 := by
    rw [← nats_length, hs]
    simp only [List.length_append, opens, List.length_replicate, hsh, List.length_singleton]; omega
  have hG : G .alts d (nats s) (.cat (.star (nestRe d)) .eps) := by rw [hs, ← nest_eq]; exact nest_alts d
  have hok : d ≤ 40 → errOf s = 0 := fun h => (comp_of hsz hG).elim (·.1) (fun h' => by omega)
  refine ⟨fun h => ?_, hok, fun h t k ht => ?_, fun h t k ht => ?_⟩
  · obtain ⟨j, rfl⟩ : ∃ j, d = 41 + j := ⟨d - 41, by omega⟩
    refine deep_err (t := opens j ++ ([97] ++ (shuts (41 + j) ++ [42]))) hsz ?_
    rw [hs, opens, ← List.replicate_append_replicate]
    simp [opens]
  · rw [lang_of (hok h) hG, cat_eps, ht]
    exact rep_many (nest_a d) k
  · rw [← Bool.not_eq_true, lang_of (hok h) hG]
    intro hl
    have := nest_only (d + 1) (nats t) (nats_lt t) hl 98 (by rw [ht]; simp)
    exact absurd this (by decide)
theorem opens_snoc (k : Nat) : opens k ++ [40] = opens (k + 1) := by rw [opens, opens, List.replicate_succ']

end Go.Proofs.Ytokcffkffcfolaa.Rg
