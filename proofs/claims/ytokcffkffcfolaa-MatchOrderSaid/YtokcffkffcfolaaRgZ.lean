/-
  RegexJoins: patterns one behind the other, or as alternatives, or repeated: by what the parts match.
-/
import Derived.Test.YtokcffkffcfolaaRgY
namespace Go.Proofs.Ytokcffkffcfolaa.Rg
open Go Go.RowKit

theorem nats_app (a b : ByteArray) : nats (a ++ b) = nats a ++ nats b := by simp [nats]
theorem nats_lit (l : List UInt8) : nats ⟨l.toArray⟩ = l.map UInt8.toNat := by simp [nats]
theorem lang_of {s : ByteArray} {d : Nat} {e : Re} (h0 : errOf s = 0) (hG : G .alts d (nats s) e) (b : ByteArray) : matches_ s b = true ↔ e.lang (nats b) := by
  obtain ⟨hs, _⟩ := comp_sound h0
  rcases comp_of hs hG with ⟨_, hp⟩ | ⟨h6, _⟩
  · exact (comp_match hG hp).2 b
  · omega
theorem cat_eps (e : Re) (w : List Nat) : (Re.cat e .eps).lang w ↔ e.lang w := by
  constructor
  · rintro ⟨u, v, rfl, hu, hv⟩
    rw [show v = [] from hv, List.append_nil]; exact hu
  · intro h; exact ⟨w, [], by simp, h, rfl⟩
theorem G.grp {k : Nat} {w : List Nat} {e : Re} (h : G .alts k w e) : G .pieces (k + 1) (40 :: (w ++ [41])) (.cat e .eps) := by
  have := G.one h.group (G.none (k := k + 1))
  simpa using this
/-- The pattern v told of s. -/
structure Held (W : World) (v : Value) (s : ByteArray) : Prop where
  ok : errOf s = 0 → ∃ p, v = .pointer (some ⟨p, 0, none⟩) ∧ Made W p s
  no : errOf s ≠ 0 → v = .pointer none
theorem Held.below {W W' : World} {v : Value} {s : ByteArray} (h : Held W v s) (hb : Below W.heap.size W W') : Held W' v s :=
  ⟨fun h0 => by obtain ⟨p, hv, hm⟩ := h.ok h0; exact ⟨p, hv, hm.below hb⟩, h.no⟩
theorem comp_any (s : ByteArray) (hs : s.size ≤ maxLen) (W : World) : Calls Try.prog 12 #[.string s] W fun e W' => ∃ v, e = .returned (.tuple #[v, .int .i64 (badOf s), .int .i64 (errOf s)]) ∧ Held W' v s ∧ Below W.heap.size W W' := by
  refine (comp_calls s hs W).mono ?_
  intro e W' hp
  by_cases h0 : errOf s = 0
  · obtain ⟨p, he, hm⟩ := hp.2.1 h0
    have hb : badOf s = 0 := by
      unfold badOf
      split
      · rfl
      · rename_i h
        rw [errOf, if_neg h] at h0
        rw [if_pos h0]
    exact ⟨_, by rw [he, hb, h0]; rfl, ⟨fun _ => ⟨p, rfl, hm⟩, fun h => absurd h0 h⟩, hp.1⟩
  · exact ⟨_, hp.2.2 h0, ⟨fun h => absurd h h0, fun _ => rfl⟩, hp.1⟩
def LawPost (W : World) (e : Ending) (W' : World) : Prop := e = .returned (.bool true) ∧ Below W.heap.size W W'

def pOr (a b : ByteArray) : ByteArray := { data := #[40] } ++ a ++ { data := #[41, 124, 40] } ++ b ++ { data := #[41] }
def pBoth (a b : ByteArray) : ByteArray := { data := #[40] } ++ a ++ { data := #[41, 40] } ++ b ++ { data := #[41] }
def pStar (a : ByteArray) : ByteArray := { data := #[40] } ++ a ++ { data := #[41, 42] }
theorem app_size (a b : ByteArray) : (a ++ b).size = a.size + b.size := by simp
theorem pOr_size (a b : ByteArray) : (pOr a b).size = a.size + b.size + 5 := by
  simp only [pOr, app_size]
  show 1 + a.size + 3 + b.size + 1 = _
  omega
theorem pBoth_size (a b : ByteArray) : (pBoth a b).size = a.size + b.size + 4 := by
  simp only [pBoth, app_size]
  show 1 + a.size + 2 + b.size + 1 = _
  omega
theorem pStar_size (a : ByteArray) : (pStar a).size = a.size + 3 := by
  simp only [pStar, app_size]
  show 1 + a.size + 2 = _
  omega

/-- What is known of the three. -/
structure Joined (a b s t : ByteArray) : Prop where
  orE : errOf (pOr a b) = 0 ∨ errOf (pOr a b) = 6
  bothE : errOf (pBoth a b) = 0 ∨ errOf (pBoth a b) = 6
  starE : errOf (pStar a) = 0 ∨ errOf (pStar a) = 6
  or_ : errOf (pOr a b) = 0 → matches_ (pOr a b) s = (matches_ a s || matches_ b s)
  both_ : errOf (pBoth a b) = 0 → matches_ a s = true → matches_ b t = true → matches_ (pBoth a b) (s ++ t) = true
  star0 : errOf (pStar a) = 0 → matches_ (pStar a) { data := #[] } = true
  star1 : errOf (pStar a) = 0 → matches_ a s = true → matches_ (pStar a) s = true
  star2 : errOf (pStar a) = 0 → matches_ a s = true → matches_ (pStar a) (s ++ s) = true
theorem joined {a b : ByteArray} (s t : ByteArray) (ha : errOf a = 0) (hb : errOf b = 0) (hsa : a.size ≤ 60) (hsb : b.size ≤ 60) : Joined a b s t := by
  obtain ⟨_, e, he, _⟩ := comp_sound ha
  obtain ⟨_, f, hf, _⟩ := comp_sound hb
  have hO : G .alts 41 (nats (pOr a b)) (.alt (.cat e .eps) (.cat f .eps)) := by
    have := G.alt he.grp (G.last hf.grp)
    simpa [pOr, nats_app, nats_lit] using this
  have hB : G .alts 41 (nats (pBoth a b)) (.cat e (.cat f .eps)) := by
    have := G.last (G.one he.group hf.grp)
    simpa [pBoth, nats_app, nats_lit] using this
  have hS : G .alts 41 (nats (pStar a)) (.cat (.star e) .eps) := by
    have := G.last (G.star he.group (G.none (k := 41)))
    simpa [pStar, nats_app, nats_lit] using this
  have key : ∀ {x : ByteArray} {g : Re}, x.size ≤ 4096 → G .alts 41 (nats x) g → errOf x = 0 ∨ errOf x = 6 := fun hx hg => by
    rcases comp_of hx hg with h | h
    · exact .inl h.1
    · exact .inr h.1
  refine ⟨key (by rw [pOr_size]; omega) hO, key (by rw [pBoth_size]; omega) hB, key (by rw [pStar_size]; omega) hS, fun h => ?_, fun h h1 h2 => ?_, fun h => ?_, fun h h1 => ?_, fun h h1 => ?_⟩
  · rw [Bool.eq_iff_iff, Bool.or_eq_true, lang_of h hO, lang_of ha he, lang_of hb hf]
    show (Re.cat e .eps).lang _ ∨ (Re.cat f .eps).lang _ ↔ _
    rw [cat_eps, cat_eps]
  · rw [lang_of h hB, nats_app]
    exact ⟨_, _, rfl, (lang_of ha he _).1 h1, (cat_eps _ _).2 ((lang_of hb hf _).1 h2)⟩
  · rw [lang_of h hS, cat_eps]; exact Many.nil
  · rw [lang_of h hS, cat_eps]
    have := Many.cons ((lang_of ha he _).1 h1) Many.nil
    show Many e.lang _
    simpa using this
  · rw [lang_of h hS, cat_eps, nats_app]
    have := Many.cons ((lang_of ha he _).1 h1) (Many.cons ((lang_of ha he _).1 h1) Many.nil)
    show Many e.lang _
    simpa using this

/-- Five patterns told. -/
structure Five (W : World) (pa pb po pt ps : Nat) (a b : ByteArray) : Prop where
  ma : Made W pa a
  mb : Made W pb b
  mo : Made W po (pOr a b)
  mt : Made W pt (pBoth a b)
  ms : Made W ps (pStar a)
theorem Five.below {W W' : World} {pa pb po pt ps : Nat} {a b : ByteArray} (h : Five W pa pb po pt ps a b) (hb : Below W.heap.size W W') : Five W' pa pb po pt ps a b :=
  ⟨h.ma.below hb, h.mb.below hb, h.mo.below hb, h.mt.below hb, h.ms.below hb⟩

set_option maxRecDepth 100000 in
set_option maxHeartbeats 40000000 in
theorem joins_calls (a b s t : ByteArray) (ha : a.size ≤ maxLen) (hb : b.size ≤ maxLen) (hs : s.size ≤ maxLen) (ht : t.size ≤ maxLen) (W : World) :
    Calls Try.prog 3 #[.string a, .string b, .string s, .string t] W (LawPost W) := by
  unfold maxLen at ha hb hs ht
  go_enter Try.func3, Try.ntmps3
  go_wp2_with fail
  refine (known_calls _).mono ?_
  rintro q W1 ⟨rfl, hb1⟩
  have HB := Lib.hid hb1; clear hb1
  by_cases h1 : 60 < a.size
  · go_wp2_with fail
    go_ret
    exact ⟨rfl, HB.out⟩
  by_cases h2 : 60 < b.size
  · go_wp2_with fail
    go_ret
    exact ⟨rfl, HB.out⟩
  by_cases h3 : 60 < s.size
  · go_wp2_with fail
    go_ret
    exact ⟨rfl, HB.out⟩
  by_cases h4 : 60 < t.size
  · go_wp2_with fail
    go_ret
    exact ⟨rfl, HB.out⟩
  go_wp2_with fail
  refine (comp_any _ (by unfold maxLen; omega) _).mono ?_
  rintro q W2 ⟨va, rfl, hva, hb2⟩
  replace HB := Lib.hid (after HB.out (Nat.le_refl _) hb2); clear hb2
  have HA := Lib.hid hva; clear hva
  go_wp2_with fail
  refine (comp_any _ (by unfold maxLen; omega) _).mono ?_
  rintro q W3 ⟨vb, rfl, hvb, hb3⟩
  replace HA := Lib.hid (HA.out.below hb3)
  replace HB := Lib.hid (after HB.out (Nat.le_refl _) hb3); clear hb3
  have HBb := Lib.hid hvb; clear hvb
  by_cases ea : errOf a = 0
  · by_cases eb : errOf b = 0
    · have hj := joined s t ea eb (by omega) (by omega)
      have HJ := Lib.hid hj; clear hj
      rw [ea, eb]
      go_wp2_with fail
      have hm := comp_any (pOr a b) (by rw [pOr_size]; unfold maxLen; omega)
      refine (hm _).mono ?_
      clear hm
      rintro q W4 ⟨vo, rfl, hvo, hb4⟩
      replace HA := Lib.hid (HA.out.below hb4)
      replace HBb := Lib.hid (HBb.out.below hb4)
      replace HB := Lib.hid (after HB.out (Nat.le_refl _) hb4)
      have HO := Lib.hid hvo; clear hvo
      go_wp2_with fail
      have hm := comp_any (pBoth a b) (by rw [pBoth_size]; unfold maxLen; omega)
      refine (hm _).mono ?_
      clear hm
      rintro q W5 ⟨vt, rfl, hvt, hb5⟩
      replace HA := Lib.hid (HA.out.below hb5)
      replace HBb := Lib.hid (HBb.out.below hb5)
      replace HB := Lib.hid (after HB.out (Nat.le_refl _) hb5)
      replace HO := Lib.hid (HO.out.below hb5)
      have HT := Lib.hid hvt; clear hvt
      go_wp2_with fail
      have hm := comp_any (pStar a) (by rw [pStar_size]; unfold maxLen; omega)
      refine (hm _).mono ?_
      clear hm
      rintro q W6 ⟨vs, rfl, hvs, hb6⟩
      replace HA := Lib.hid (HA.out.below hb6)
      replace HBb := Lib.hid (HBb.out.below hb6)
      replace HB := Lib.hid (after HB.out (Nat.le_refl _) hb6)
      replace HO := Lib.hid (HO.out.below hb6)
      replace HT := Lib.hid (HT.out.below hb6)
      have HS := Lib.hid hvs; clear hvs hb4 hb5 hb6
      rcases HJ.out.orE with eo | eo
      · rcases HJ.out.bothE with et | et
        · rcases HJ.out.starE with es | es
          · obtain ⟨pa, rfl, ma⟩ := HA.out.ok ea
            obtain ⟨pb, rfl, mb⟩ := HBb.out.ok eb
            obtain ⟨po, rfl, mo⟩ := HO.out.ok eo
            obtain ⟨pt, rfl, mt⟩ := HT.out.ok et
            obtain ⟨ps, rfl, ms⟩ := HS.out.ok es
            have H5 := Lib.hid (Five.mk ma mb mo mt ms)
            clear ma mb mo mt ms HA HBb HO HT HS
            have f1 := HJ.out.or_ eo
            have f2 := HJ.out.both_ et
            have f3 := HJ.out.star0 es
            have f4 := HJ.out.star1 es
            have f5 := HJ.out.star2 es
            rw [eo, et, es]
            clear HJ
            obtain ⟨x, hx⟩ : ∃ x, matches_ a s = x := ⟨_, rfl⟩
            obtain ⟨y, hy⟩ : ∃ y, matches_ b s = y := ⟨_, rfl⟩
            obtain ⟨z, hz⟩ : ∃ z, matches_ b t = z := ⟨_, rfl⟩
            rw [hx, hy] at f1
            rw [hx, hz] at f2
            rw [hx] at f4 f5
            have e1 := Lib.hid ea
            clear ea eb eo et es e1
            have F1 := Lib.hid f1; clear f1
            have F3 := Lib.hid f3; clear f3
            have X := Lib.hid hx; clear hx
            have Y := Lib.hid hy; clear hy
            have Z := Lib.hid hz; clear hz
            cases x
            · clear f2 f4 f5
              cases y <;> cases z <;> (
              go_wp2_with fail
              repeat
                (first
                  | with_reducible refine (H5.out.mo.match_calls (b := s) F1.out (by omega)).mono ?_
                  | with_reducible refine (H5.out.ma.match_calls (b := s) X.out (by omega)).mono ?_
                  | with_reducible refine (H5.out.mb.match_calls (b := s) Y.out (by omega)).mono ?_
                  | with_reducible refine (H5.out.mb.match_calls (b := t) Z.out (by omega)).mono ?_
                  | with_reducible refine (H5.out.mt.match_calls (b := s ++ t) F2.out (by rw [app_size]; omega)).mono ?_
                  | with_reducible refine (H5.out.ms.match_calls (b := { data := #[] }) F3.out (by decide)).mono ?_
                  | with_reducible refine (H5.out.ms.match_calls (b := s) F4.out (by omega)).mono ?_
                  | with_reducible refine (H5.out.ms.match_calls (b := s ++ s) F5.out (by rw [app_size]; omega)).mono ?_)
                rintro q W7 ⟨rfl, hb7⟩
                replace H5 := Lib.hid (H5.out.below hb7)
                replace HB := Lib.hid (after HB.out (Nat.le_refl _) hb7)
                clear hb7
                go_wp2_with fail
              go_ret
              exact ⟨rfl, HB.out⟩
              )
            · have F4 := Lib.hid (f4 rfl); clear f4
              have F5 := Lib.hid (f5 rfl); clear f5
              cases z
              · clear f2
                cases y <;> (
                go_wp2_with fail
                repeat
                  (first
                    | with_reducible refine (H5.out.mo.match_calls (b := s) F1.out (by omega)).mono ?_
                    | with_reducible refine (H5.out.ma.match_calls (b := s) X.out (by omega)).mono ?_
                    | with_reducible refine (H5.out.mb.match_calls (b := s) Y.out (by omega)).mono ?_
                    | with_reducible refine (H5.out.mb.match_calls (b := t) Z.out (by omega)).mono ?_
                    | with_reducible refine (H5.out.mt.match_calls (b := s ++ t) F2.out (by rw [app_size]; omega)).mono ?_
                    | with_reducible refine (H5.out.ms.match_calls (b := { data := #[] }) F3.out (by decide)).mono ?_
                    | with_reducible refine (H5.out.ms.match_calls (b := s) F4.out (by omega)).mono ?_
                    | with_reducible refine (H5.out.ms.match_calls (b := s ++ s) F5.out (by rw [app_size]; omega)).mono ?_)
                  rintro q W7 ⟨rfl, hb7⟩
                  replace H5 := Lib.hid (H5.out.below hb7)
                  replace HB := Lib.hid (after HB.out (Nat.le_refl _) hb7)
                  clear hb7
                  go_wp2_with fail
                go_ret
                exact ⟨rfl, HB.out⟩
                )
              · have F2 := Lib.hid (f2 rfl rfl); clear f2
                cases y <;> (
                go_wp2_with fail
                repeat
                  (first
                    | with_reducible refine (H5.out.mo.match_calls (b := s) F1.out (by omega)).mono ?_
                    | with_reducible refine (H5.out.ma.match_calls (b := s) X.out (by omega)).mono ?_
                    | with_reducible refine (H5.out.mb.match_calls (b := s) Y.out (by omega)).mono ?_
                    | with_reducible refine (H5.out.mb.match_calls (b := t) Z.out (by omega)).mono ?_
                    | with_reducible refine (H5.out.mt.match_calls (b := s ++ t) F2.out (by rw [app_size]; omega)).mono ?_
                    | with_reducible refine (H5.out.ms.match_calls (b := { data := #[] }) F3.out (by decide)).mono ?_
                    | with_reducible refine (H5.out.ms.match_calls (b := s) F4.out (by omega)).mono ?_
                    | with_reducible refine (H5.out.ms.match_calls (b := s ++ s) F5.out (by rw [app_size]; omega)).mono ?_)
                  rintro q W7 ⟨rfl, hb7⟩
                  replace H5 := Lib.hid (H5.out.below hb7)
                  replace HB := Lib.hid (after HB.out (Nat.le_refl _) hb7)
                  clear hb7
                  go_wp2_with fail
                go_ret
                exact ⟨rfl, HB.out⟩
                )
          · rw [es, eo, et]
            go_wp2_with fail
            go_ret
            exact ⟨rfl, HB.out⟩
        · rw [et, eo]
          go_wp2_with fail
          go_ret
          exact ⟨rfl, HB.out⟩
      · rw [eo]
        go_wp2_with fail
        go_ret
        exact ⟨rfl, HB.out⟩
    · have b1 : ((errOf b : Int) != 0) = true := by rw [bne_iff_ne]; omega
      rw [ea]
      go_wp2_with fail
      go_ret
      exact ⟨rfl, HB.out⟩
  · have b1 : ((errOf a : Int) != 0) = true := by rw [bne_iff_ne]; omega
    go_wp2_with fail
    go_ret
    exact ⟨rfl, HB.out⟩
end Go.Proofs.Ytokcffkffcfolaa.Rg
