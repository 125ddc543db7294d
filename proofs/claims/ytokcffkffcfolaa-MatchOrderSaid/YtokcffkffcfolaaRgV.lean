/-
  The reader reads just what is in the grammar, and writes the pattern's program.
-/
import Derived.Test.YtokcffkffcfolaaRgU
namespace Go.Proofs.Ytokcffkffcfolaa.Rg
open Go

def Shut (t : List Nat) : Prop := ∀ c v, t = c :: v → c = 41
theorem Shut.stop {t : List Nat} (h : Shut t) : Stop t := fun c v hc => .inr (h c v hc)
/-- What alternatives come to. -/
structure GoesA (k n : Nat) (r : Rd) (t : List Nat) (e : Re) : Prop where
  rdy : Rdy (Rd.altsR (Rd.group k) n r) t
  l : ∀ v, (Rd.setA (Rd.altsR (Rd.group k) n r).l v (Rd.altsO (Rd.group k) n r [])).map norm = r.l.map norm ++ e.codeTo r.l.length v
def Reads (d : Nat) (w : List Nat) (e : Re) : Ty → Prop
  | .atom => ∀ k r t, Rdy r (w ++ t) → Goes r (r.atom (Rd.group k)) t e ∨ Deep (r.atom (Rd.group k)) k d
  | .pieces => ∀ k n r t, Rdy r (w ++ t) → Stop t → w.length < n → Goes r (Rd.pieces (Rd.group k) n r) t e ∨ Deep (Rd.pieces (Rd.group k) n r) k d
  | .alts => ∀ k n r t, Rdy r (w ++ t) → Shut t → w.length < n → GoesA k n r t e ∨ Deep (Rd.altsR (Rd.group k) n r) k d

theorem Goes.cat {r r1 r2 : Rd} {t1 t2 : List Nat} {e f : Re} (h : Goes r r1 t1 e) (k : Goes r1 r2 t2 f) : Goes r r2 t2 (.cat e f) :=
  ⟨k.rdy, by rw [k.l, h.l, h.length, List.append_assoc]; rfl⟩
/-- One piece more. -/
theorem pieces_step {d : Nat} {a v x : List Nat} {e g f : Re} (ha : G .atom d a e) (iha : Reads d a e .atom) (ihv : Reads d v f .pieces)
    (hm : ∀ {r r1 : Rd} {t : List Nat}, Stop t → Goes r r1 (x ++ v ++ t) e → Goes r (r1.many r.l.length) (v ++ t) g) : Reads d (a ++ (x ++ v)) (.cat g f) .pieces := by
  intro k n r t h ht hn
  obtain ⟨c, a', rfl, h1, h2, h3, h4, h5, h6⟩ := ha.atom_head
  obtain ⟨n, rfl⟩ : ∃ m, n = m + 1 := ⟨n - 1, by omega⟩
  have hr : Rd.pieces (Rd.group k) (n + 1) r = Rd.pieces (Rd.group k) n ((r.atom (Rd.group k)).many r.l.length) := by
    have h' : Rdy r (c :: (a' ++ (x ++ v) ++ t)) := h
    rw [Rd.pieces, if_neg (by rw [h'.no_stop h1 h2]; simp), if_neg (by rw [h'.an_atom h3 h4 h5 h6]; simp)]
  rw [hr]
  rw [List.append_assoc] at h
  rcases iha k r _ h with hg | hd
  · have hg2 := hm ht hg
    rcases ihv k n _ t hg2.rdy ht (by simp at hn; omega) with hg3 | hd
    · exact .inl (hg2.cat hg3)
    · exact .inr hd
  · have hne : (r.atom (Rd.group k)).err ≠ 0 := by rw [hd.1]; decide
    rw [many_bad hne, pieces_bad _ hne]
    exact .inr hd
theorem altOnce_goes {r p : Rd} {t : List Nat} {e : Re} (h : Goes r p (124 :: t) e) : Rdy (p.altOnce r.l.length) t ∧
    (p.altOnce r.l.length).l.map norm = r.l.map norm ++ ⟨1, .zero, r.l.length + 1, r.l.length + 2 + e.len⟩ :: (e.code (r.l.length + 1) ++ [⟨2, .zero, 0, 0⟩]) ∧ (p.shift r.l.length).l.length = r.l.length + (e.len + 1) := by
  have hA : (r.l.map norm).length = r.l.length := by simp
  obtain ⟨x, hs⟩ := shift_norm h.l (p.isR 124) (Rd.isR_ext _ _).l
  obtain ⟨x', hs'⟩ := shift_norm h.l p rfl
  rw [hA, code_bump] at hs hs'
  have hp := put_norm hs ⟨2, .zero, 0, 0⟩
  rw [List.append_assoc, List.cons_append] at hp
  have hlen := congrArg List.length hp
  have hlen' := congrArg List.length hs'
  simp only [List.length_map, List.length_append, List.length_cons, List.length_nil, Re.code_length] at hlen hlen'
  have hfin := setAt_norm hp ⟨1, .zero, r.l.length + 1, (((p.isR 124).shift r.l.length).put ⟨2, .zero, 0, 0⟩).l.length⟩
  rw [hA] at hfin
  refine ⟨⟨h.rdy.isR.err, h.rdy.isR.top, h.rdy.isR.rest⟩, ?_, hlen'⟩
  rw [Rd.altOnce, hfin, hlen]
  simp [norm]; omega
theorem Rdy.opened {r : Rd} {t : List Nat} (h : Rdy r (40 :: t)) : Rdy r.opened t := ⟨h.adv.err, h.adv.top, h.adv.rest⟩
theorem alts_l {k : Nat} {r : Rd} {t : List Nat} {e : Re} {T : Ty} {d : Nat} {w : List Nat} (hG : G T d w e) (hT : T = .alts) (h : GoesA k r.fuel r t e) : Goes r (Rd.alts (Rd.group k) r) t e := by
  have hl := h.l (Rd.altsR (Rd.group k) r.fuel r).l.length
  have hlen := congrArg List.length hl
  simp only [List.length_map, List.length_append, Re.codeTo_length, Rd.setA_length] at hlen
  refine ⟨⟨h.rdy.err, h.rdy.top, h.rdy.rest⟩, ?_⟩
  show (Rd.setA _ _ _).map norm = _
  rw [hl, hlen, hG.codeTo.2 hT]
theorem group_read {k d : Nat} {r : Rd} {t w : List Nat} {e : Re} (hG : G .alts d w e) (ih : Reads d w e .alts) (h : Rdy r (40 :: (w ++ 41 :: t))) : Goes r (Rd.group k r) t e ∨ Deep (Rd.group k r) k (d + 1) := by
  cases k with
  | zero => exact .inr ⟨by show (r.fail 6 r.at_).err = 6; rw [Rd.fail, if_pos h.err], by omega⟩
  | succ k =>
    rcases ih k r.opened.fuel r.opened (41 :: t) h.opened (fun c v hc => (List.cons.inj hc).1.symm) (by rw [h.opened.fuel]; simp; omega) with hg | hd
    · have hg2 := alts_l hG rfl hg
      have hr : Rdy ((Rd.alts (Rd.group k) r.opened).withDeep r.deep) (41 :: t) := ⟨hg2.rdy.err, hg2.rdy.top, hg2.rdy.rest⟩
      have hb : ((Rd.alts (Rd.group k) r.opened).withDeep r.deep).isB 41 = true := by rw [hr.isB]; rfl
      rw [Rd.group, if_pos hb]
      refine .inl ⟨hr.isR, ?_⟩
      rw [(Rd.isR_ext _ _).l]
      exact hg2.l
    · have he : ((Rd.alts (Rd.group k) r.opened).withDeep r.deep).err = 6 := hd.1
      have hb : ((Rd.alts (Rd.group k) r.opened).withDeep r.deep).isB 41 = false := by simp [Rd.isB, Rd.has, he]
      rw [Rd.group, if_neg (by rw [hb]; simp)]
      refine .inr ⟨?_, by have := hd.2; omega⟩
      rw [Rd.fail, if_neg (by rw [he]; decide)]; exact he
theorem reads_all {T : Ty} {d : Nat} {w : List Nat} {e : Re} (h : G T d w e) : Reads d w e T := by
  induction h with
  | dot =>
    intro k r t h
    have h' : Rdy r (46 :: t) := h
    rw [Rd.atom, h'.cur, if_neg (by decide), if_neg (by decide), if_pos rfl]
    exact .inl (Goes.put (r := r) h'.adv rfl _)
  | @esc d c hc =>
    intro k r t h
    have h' : Rdy r (92 :: c :: t) := h
    have he := esc_read h' hc
    rw [Rd.atom, h'.cur, if_neg (by decide), if_neg (by decide), if_neg (by decide), if_pos rfl, he.2]
    exact .inl (.put he.1 (Rd.escR_ext _ _ h'.has).l _)
  | @byte d c hc =>
    intro k r t h
    have h' : Rdy r (c :: t) := h
    simp only [special, List.mem_cons, List.not_mem_nil, or_false, not_or] at hc
    rw [Rd.atom, h'.cur, if_neg (by omega), if_neg (by omega), if_neg (by omega), if_neg (by omega)]
    exact .inl (Goes.put (r := r) h'.adv rfl _)
  | @cls d w S hc =>
    intro k r t h
    have hcur : r.cur = 91 := by cases hc <;> exact Rdy.cur h
    have := class_read h hc
    rw [Rd.atom, if_pos hcur]
    exact .inl ⟨this.1, by rw [this.2]; simp [Re.code, norm]⟩
  | @group d w e hG ih =>
    intro k r t h
    have h' : Rdy r (40 :: (w ++ 41 :: t)) := by simpa using h
    rw [Rd.atom, h'.cur, if_neg (by decide), if_pos rfl]
    exact group_read hG ih h'
  | none =>
    intro k n r t h ht hn
    obtain ⟨n, rfl⟩ : ∃ m, n = m + 1 := ⟨n - 1, by omega⟩
    rw [Rd.pieces, if_pos (h.stops ht)]
    exact .inl ⟨h, by simp [Re.code]⟩
  | one ha hv iha ihv =>
    have := pieces_step (x := []) ha iha ihv (fun ht hg => by rw [many_once hg.rdy (hv.pieces_once ht)]; exact hg)
    simpa using this
  | star ha hv iha ihv =>
    have := pieces_step (x := [42]) ha iha ihv (fun ht hg => many_star hg)
    simpa using this
  | plus ha hv iha ihv =>
    have := pieces_step (x := [43]) ha iha ihv (fun ht hg => many_plus hg)
    simpa using this
  | opt ha hv iha ihv =>
    have := pieces_step (x := [63]) ha iha ihv (fun ht hg => many_opt hg)
    simpa using this
  | @last d w e hp ih =>
    intro k n r t h ht hn
    obtain ⟨n, rfl⟩ : ∃ m, n = m + 1 := ⟨n - 1, by omega⟩
    rcases ih k r.fuel r t h ht.stop (by rw [h.fuel]; simp; omega) with hg | hd
    · have hb : (Rd.pieces (Rd.group k) r.fuel r).isB 124 = false := by
        cases t with
        | nil => exact hg.rdy.isB_nil _
        | cons c v => rw [hg.rdy.isB, ht c v rfl]; rfl
      have h1 : Rd.altsR (Rd.group k) (n + 1) r = Rd.pieces (Rd.group k) r.fuel r := by rw [Rd.altsR, if_neg (by rw [hb]; simp)]
      have h2 : Rd.altsO (Rd.group k) (n + 1) r [] = [] := by rw [Rd.altsO, if_neg (by rw [hb]; simp)]
      refine .inl ⟨by rw [h1]; exact hg.rdy, fun v => ?_⟩
      rw [h1, h2, hp.codeTo.1 rfl]
      exact hg.l
    · have hb : (Rd.pieces (Rd.group k) r.fuel r).isB 124 = false := by simp [Rd.isB, Rd.has, hd.1]
      have h1 : Rd.altsR (Rd.group k) (n + 1) r = Rd.pieces (Rd.group k) r.fuel r := by rw [Rd.altsR, if_neg (by rw [hb]; simp)]
      rw [h1]
      exact .inr hd
  | @alt d w e v f hp hv ihp ihv =>
    intro k n r t h ht hn
    obtain ⟨n, rfl⟩ : ∃ m, n = m + 1 := ⟨n - 1, by omega⟩
    rw [List.append_assoc, List.cons_append] at h
    rcases ihp k r.fuel r _ h (fun c x hc => .inl (List.cons.inj hc).1.symm) (by rw [h.fuel]; simp; omega) with hg | hd
    · have hb : (Rd.pieces (Rd.group k) r.fuel r).isB 124 = true := by rw [hg.rdy.isB]; rfl
      obtain ⟨hr2, hl2, hq⟩ := altOnce_goes hg
      have h1 : Rd.altsR (Rd.group k) (n + 1) r = Rd.altsR (Rd.group k) n ((Rd.pieces (Rd.group k) r.fuel r).altOnce r.l.length) := by rw [Rd.altsR, if_pos hb]
      have h2 : Rd.altsO (Rd.group k) (n + 1) r [] = (r.l.length + (e.len + 1)) :: Rd.altsO (Rd.group k) n ((Rd.pieces (Rd.group k) r.fuel r).altOnce r.l.length) [] := by
        rw [Rd.altsO, if_pos hb, altsO_app, hq]; rfl
      rcases ihv k n _ t hr2 ht (by simp at hn; omega) with hg2 | hd2
      · refine .inl ⟨by rw [h1]; exact hg2.rdy, fun z => ?_⟩
        rw [h1, h2]
        show (Rd.setA ((Rd.altsR (Rd.group k) n ((Rd.pieces (Rd.group k) r.fuel r).altOnce r.l.length)).l.modify _ (toA z)) z _).map norm = _
        rw [setA_modify]
        have hl3 := hg2.l z
        have hlen := congrArg List.length hl2
        simp only [List.length_map, List.length_append, List.length_cons, List.length_nil, Re.code_length] at hlen
        rw [hl2] at hl3
        have hl4 : (Rd.setA (Rd.altsR (Rd.group k) n ((Rd.pieces (Rd.group k) r.fuel r).altOnce r.l.length)).l z (Rd.altsO (Rd.group k) n ((Rd.pieces (Rd.group k) r.fuel r).altOnce r.l.length) [])).map norm =
            (r.l.map norm ++ ⟨1, .zero, r.l.length + 1, r.l.length + 2 + e.len⟩ :: e.code (r.l.length + 1)) ++ ⟨2, .zero, 0, 0⟩ :: f.codeTo (r.l.length + 2 + e.len) z := by
          rw [hl3, hlen, show r.l.length + (e.len + (0 + 1) + 1) = r.l.length + 2 + e.len by omega]; simp
        have hm := modify_norm z hl4 rfl
        have hAl : (r.l.map norm ++ ⟨1, .zero, r.l.length + 1, r.l.length + 2 + e.len⟩ :: e.code (r.l.length + 1)).length = r.l.length + (e.len + 1) := by simp [Re.code_length]
        rw [hAl] at hm
        rw [hm, Re.codeTo]
        simp [toA]
      · rw [h1]; exact .inr hd2
    · have hb : (Rd.pieces (Rd.group k) r.fuel r).isB 124 = false := by simp [Rd.isB, Rd.has, hd.1]
      have h1 : Rd.altsR (Rd.group k) (n + 1) r = Rd.pieces (Rd.group k) r.fuel r := by rw [Rd.altsR, if_neg (by rw [hb]; simp)]
      rw [h1]
      exact .inr hd

/-! What the reader reads is in the grammar. -/
def GroupS (k : Nat) : Prop := ∀ (r : Rd) (w : List Nat), Rdy r (40 :: w) → (Rd.group k r).err = 0 → ∃ u v e, 40 :: w = u ++ v ∧ G .atom k u e
theorem atom_sound {k : Nat} (hg : GroupS k) {r : Rd} {c : Nat} {w : List Nat} (h : Rdy r (c :: w)) (h1 : r.stops = false) (h2 : r.noAtom = false) (h0 : (r.atom (Rd.group k)).err = 0) : ∃ u v e, c :: w = u ++ v ∧ G .atom k u e := by
  rw [Rd.atom, h.cur] at h0
  split at h0
  · rename_i hc
    subst hc
    obtain ⟨u, v, S, hu, hS⟩ := class_sound h h0
    exact ⟨u, v, _, hu, .cls hS⟩
  · split at h0
    · rename_i hc
      subst hc
      exact hg r w h h0
    · split at h0
      · rename_i hc
        subst hc
        exact ⟨[46], w, _, rfl, .dot⟩
      · split at h0
        · rename_i hc
          subst hc
          obtain ⟨d, v, rfl, hd⟩ := esc_sound h h0
          exact ⟨[92, d], v, _, rfl, .esc hd⟩
        · refine ⟨[c], w, _, rfl, .byte ?_⟩
          have h1' : (!r.has || c == 124 || c == 41) = false := by rw [← h.cur]; exact h1
          have h2' : [42, 43, 63, 93].contains c = false := by rw [← h.cur]; exact h2
          simp at h1' h2'
          simp only [special, List.mem_cons, List.not_mem_nil, or_false, not_or]
          omega
theorem deep_not {r : Rd} {k : Nat} (_ : r.err = 0) : ¬ Deep r k k := fun h => by have := h.2; omega
theorem goes_of {k : Nat} {w t : List Nat} {e : Re} {r : Rd} (h : G .atom k w e) (hr : Rdy r (w ++ t)) : Goes r (r.atom (Rd.group k)) t e := by
  rcases reads_all h k r t hr with hg | hd
  · exact hg
  · exact absurd hd.2 (Nat.lt_irrefl _)
theorem pieces_sound {k : Nat} (hg : GroupS k) : ∀ (n : Nat) (r : Rd) (w : List Nat), Rdy r w → w.length < n → (Rd.pieces (Rd.group k) n r).err = 0 → ∃ u v e, w = u ++ v ∧ G .pieces k u e ∧ Stop v
  | 0, r, w, h, hn, h0 => by omega
  | n + 1, r, w, h, hn, h0 => by
    by_cases hs : r.stops = true
    · refine ⟨[], w, _, rfl, .none, ?_⟩
      intro c v hc
      subst hc
      have : (!r.has || c == 124 || c == 41) = true := by rw [← h.cur]; exact hs
      rw [h.has] at this
      simpa using this
    · have hs' : r.stops = false := by simpa using hs
      rw [Rd.pieces, if_neg hs] at h0
      by_cases ha : r.noAtom = true
      · rw [if_pos ha] at h0
        exact absurd h0 (Rd.fail_err _ 2 _ (by decide))
      · rw [if_neg ha] at h0
        have h1 : (r.atom (Rd.group k)).err = 0 := by
          apply Classical.byContradiction
          intro hne
          rw [many_bad hne, pieces_bad _ hne] at h0
          exact hne h0
        cases w with
        | nil => rw [Rd.stops, h.has_nil] at hs'; cases hs'
        | cons c w =>
          obtain ⟨u, v, e, huv, hu⟩ := atom_sound hg h hs' (by simpa using ha) h1
          rw [huv] at h hn ⊢
          have hgo := goes_of hu h
          obtain ⟨x, u', rfl, _⟩ := hu.atom_head
          have hlen : v.length < n := by simp at hn; omega
          by_cases ho : Once v
          · rw [many_once hgo.rdy ho] at h0
            obtain ⟨u2, v2, f, rfl, hu2, hst⟩ := pieces_sound hg n _ v hgo.rdy hlen h0
            exact ⟨_, v2, _, (List.append_assoc ..).symm, .one hu hu2, hst⟩
          · obtain ⟨y, v', rfl, hy⟩ : ∃ y v', v = y :: v' ∧ (y = 42 ∨ y = 43 ∨ y = 63) := by
              apply Classical.byContradiction
              intro hne
              apply ho
              intro y v' hv
              refine ⟨fun h => hne ⟨y, v', hv, .inl h⟩, fun h => hne ⟨y, v', hv, .inr (.inl h)⟩, fun h => hne ⟨y, v', hv, .inr (.inr h)⟩⟩
            have hlen' : v'.length < n := by simp at hlen; omega
            rcases hy with rfl | rfl | rfl
            · obtain ⟨u2, v2, f, rfl, hu2, hst⟩ := pieces_sound hg n _ v' (many_star hgo).rdy hlen' h0
              exact ⟨x :: u' ++ 42 :: u2, v2, _, by simp, .star hu hu2, hst⟩
            · obtain ⟨u2, v2, f, rfl, hu2, hst⟩ := pieces_sound hg n _ v' (many_plus hgo).rdy hlen' h0
              exact ⟨x :: u' ++ 43 :: u2, v2, _, by simp, .plus hu hu2, hst⟩
            · obtain ⟨u2, v2, f, rfl, hu2, hst⟩ := pieces_sound hg n _ v' (many_opt hgo).rdy hlen' h0
              exact ⟨x :: u' ++ 63 :: u2, v2, _, by simp, .opt hu hu2, hst⟩
theorem alts_sound {k : Nat} (hg : GroupS k) : ∀ (n : Nat) (r : Rd) (w : List Nat), Rdy r w → w.length < n → (Rd.altsR (Rd.group k) n r).err = 0 → ∃ u v e, w = u ++ v ∧ G .alts k u e ∧ Shut v
  | 0, r, w, h, hn, h0 => by omega
  | n + 1, r, w, h, hn, h0 => by
    rw [Rd.altsR] at h0
    have hp0 : (Rd.pieces (Rd.group k) r.fuel r).err = 0 := by
      split at h0
      · rename_i hb; exact ((Rd.has_iff _).1 (Rd.isB_has _ hb).1).1
      · exact h0
    obtain ⟨u, v, e, rfl, hu, hst⟩ := pieces_sound hg r.fuel r w h (by rw [h.fuel]; omega) hp0
    have hgo : Goes r (Rd.pieces (Rd.group k) r.fuel r) v e := by
      rcases reads_all hu k r.fuel r v h hst (by rw [h.fuel]; simp; omega) with hgo | hd
      · exact hgo
      · exact absurd hd.2 (Nat.lt_irrefl _)
    by_cases hb : (Rd.pieces (Rd.group k) r.fuel r).isB 124 = true
    · rw [if_pos hb] at h0
      cases v with
      | nil => rw [hgo.rdy.isB_nil] at hb; cases hb
      | cons c v =>
        have hc : c = 124 := by rw [hgo.rdy.isB] at hb; simpa using hb
        subst hc
        obtain ⟨u2, v2, f, rfl, hu2, hst2⟩ := alts_sound hg n _ v (altOnce_goes hgo).1 (by simp at hn; omega) h0
        exact ⟨u ++ 124 :: u2, v2, _, by simp, .alt hu hu2, hst2⟩
    · refine ⟨u, v, e, rfl, .last hu, ?_⟩
      intro c x hc
      subst hc
      rw [hgo.rdy.isB] at hb
      have := hst c x rfl
      simp at hb
      omega
theorem group_sound : ∀ k, GroupS k
  | 0 => fun r w h h0 => by
    have : (r.fail 6 r.at_).err = 0 := h0
    exact absurd this (Rd.fail_err _ 6 _ (by decide))
  | k + 1 => fun r w h h0 => by
    rw [Rd.group] at h0
    by_cases hb : ((Rd.alts (Rd.group k) r.opened).withDeep r.deep).isB 41 = true
    · have h1 : (Rd.altsR (Rd.group k) r.opened.fuel r.opened).err = 0 := ((Rd.has_iff _).1 (Rd.isB_has _ hb).1).1
      obtain ⟨u, v, e, rfl, hu, hst⟩ := alts_sound (group_sound k) _ r.opened w h.opened (by rw [h.opened.fuel]; omega) h1
      rcases reads_all hu k r.opened.fuel r.opened v h.opened hst (by rw [h.opened.fuel]; simp; omega) with hgo | hd
      · cases v with
        | nil =>
          have hr : Rdy ((Rd.alts (Rd.group k) r.opened).withDeep r.deep) [] := ⟨hgo.rdy.err, hgo.rdy.top, hgo.rdy.rest⟩
          rw [hr.isB_nil] at hb; cases hb
        | cons c v =>
          have := hst c v rfl
          subst this
          exact ⟨40 :: (u ++ [41]), v, e, by simp, .group hu⟩
      · exact absurd hd.2 (Nat.lt_irrefl _)
    · rw [if_neg hb] at h0
      exact absurd h0 (Rd.fail_err _ 2 _ (by decide))
theorem G.mono {T : Ty} {k : Nat} {w : List Nat} {e : Re} (h : G T k w e) : ∀ {k'}, k ≤ k' → G T k' w e := by
  induction h with
  | dot => intro k' _; exact .dot
  | esc h => intro k' _; exact .esc h
  | byte h => intro k' _; exact .byte h
  | cls h => intro k' _; exact .cls h
  | group _ ih =>
    intro k' hk
    obtain ⟨j, rfl⟩ : ∃ j, k' = j + 1 := ⟨k' - 1, by omega⟩
    exact .group (ih (by omega))
  | none => intro k' _; exact .none
  | one _ _ ih1 ih2 => intro k' hk; exact .one (ih1 hk) (ih2 hk)
  | star _ _ ih1 ih2 => intro k' hk; exact .star (ih1 hk) (ih2 hk)
  | plus _ _ ih1 ih2 => intro k' hk; exact .plus (ih1 hk) (ih2 hk)
  | opt _ _ ih1 ih2 => intro k' hk; exact .opt (ih1 hk) (ih2 hk)
  | last _ ih => intro k' hk; exact .last (ih hk)
  | alt _ _ ih1 ih2 => intro k' hk; exact .alt (ih1 hk) (ih2 hk)

/-! A whole pattern. -/
theorem start_rdy (s : ByteArray) : Rdy (start s) (nats s) := ⟨rfl, Nat.zero_le _, by simp [Rd.rest, start]⟩
/-- What is in the grammar has a program, but if its brackets are too deep. -/
theorem comp_of {s : ByteArray} {d : Nat} {e : Re} (hs : s.size ≤ 4096) (h : G .alts d (nats s) e) : (errOf s = 0 ∧ (progOf s).map norm = e.prog) ∨ (errOf s = 6 ∧ 40 < d) := by
  have he : errOf s = (readEnd s).err := by rw [errOf, if_neg (by omega)]
  have hl : (nats s).length < (start s).fuel := by rw [(start_rdy s).fuel]; omega
  rcases reads_all h 40 (start s).fuel (start s) [] (by simpa using start_rdy s) (fun c v hc => by cases hc) hl with hg | hd
  · have hg2 := alts_l h rfl hg
    have hge : ¬ (read s).at_ < s.size := by
      have h1 := (read s).rest_length
      have h2 : (read s).rest = [] := hg2.rdy.rest
      rw [h2] at h1
      have h3 : (read s).s = s := (read_nxt s).s
      rw [h3] at h1
      simp at h1; omega
    have hr : readEnd s = read s := if_neg hge
    refine .inl ⟨by rw [he, hr]; exact hg2.rdy.err, ?_⟩
    rw [progOf, hr, List.map_append]
    show (Rd.alts (Rd.group 40) (start s)).l.map norm ++ _ = _
    rw [hg2.l]
    simp [start, Re.prog, norm]
  · have h6 : (read s).err = 6 := hd.1
    refine .inr ⟨?_, hd.2⟩
    rw [he, readEnd]
    split
    · rw [Rd.fail, if_neg (by rw [h6]; decide)]; exact h6
    · exact h6
/-- A pattern that has a program is in the grammar. -/
theorem comp_sound {s : ByteArray} (h0 : errOf s = 0) : s.size ≤ 4096 ∧ ∃ e, G .alts 40 (nats s) e ∧ (progOf s).map norm = e.prog := by
  have hs : s.size ≤ 4096 := by
    apply Classical.byContradiction
    intro h
    rw [errOf, if_pos (by omega)] at h0
    cases h0
  refine ⟨hs, ?_⟩
  have he : errOf s = (readEnd s).err := by rw [errOf, if_neg (by omega)]
  rw [he] at h0
  have hlt : ¬ (read s).at_ < s.size := fun hlt => by
    rw [readEnd, if_pos hlt] at h0
    exact absurd h0 (Rd.fail_err _ 2 _ (by decide))
  have hr : readEnd s = read s := if_neg hlt
  rw [hr] at h0
  have hl : (nats s).length < (start s).fuel := by rw [(start_rdy s).fuel]; omega
  obtain ⟨u, v, e, huv, hu, hst⟩ := alts_sound (group_sound 40) (start s).fuel (start s) (nats s) (start_rdy s) hl h0
  have hr2 := start_rdy s
  rw [huv] at hr2 hl
  rcases reads_all hu 40 (start s).fuel (start s) v hr2 hst (by simp at hl; omega) with hg | hd
  · have hv : v = [] := by
      have h1 := (read s).rest_length
      have h2 : (read s).rest = v := hg.rdy.rest
      have h3 : (read s).s = s := (read_nxt s).s
      rw [h2, h3] at h1
      exact List.eq_nil_of_length_eq_zero (by omega)
    subst hv
    rw [List.append_nil] at huv
    rw [← huv] at hu
    refine ⟨e, hu, ?_⟩
    rcases comp_of hs hu with h | h
    · exact h.2
    · omega
  · exact absurd hd.2 (Nat.lt_irrefl _)
/-- What a pattern that has a program matches. -/
theorem comp_match {s : ByteArray} {e : Re} {d : Nat} (hG : G .alts d (nats s) e) (hp : (progOf s).map norm = e.prog) : WF (progOf s) ∧ ∀ b : ByteArray, matchF (progOf s) b.data.toList = true ↔ e.lang (nats b) := by
  have hw : WF (progOf s) := wf_norm (by rw [hp]; exact prog_wf e hG.ok)
  refine ⟨hw, fun b => ?_⟩
  rw [matchF_spec hw (by simp [progOf]), ← acc_norm, hp, prog_lang]; rfl
end Go.Proofs.Ytokcffkffcfolaa.Rg
