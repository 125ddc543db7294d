/-
  The document's tree of a pattern has the pattern's program.
-/
import Derived.Test.YtokcffkffcfolaaRhT
namespace Go.Proofs.Ytokcffkffcfolaa.Rh
open Go Go.Proofs.Ytokcffkffcfolaa.Rg

mutual
/-- The pattern of a node, -/
def T.re : T → Re
  | .set S => .set S
  | .node k l => if k = 1 then l.cat else if k = 2 then l.all else if k = 4 then .star l.last else if k = 5 then .plus l.last else .opt l.last
  | .nil => .eps
  | .snoc _ _ => .eps
/-- of a row, one behind the other, -/
def T.cat : T → Re
  | .snoc l n => .cat l.cat n.re
  | .set _ => .eps
  | .node _ _ => .eps
  | .nil => .eps
/-- as alternatives, -/
def T.all : T → Re
  | .snoc l n => l.altJ n.re
  | .set _ => .eps
  | .node _ _ => .eps
  | .nil => .eps
/-- as alternatives with one behind them, -/
def T.altJ : T → Re → Re
  | .snoc l n, r => l.altJ (.alt n.re r)
  | .set _, r => r
  | .node _ _, r => r
  | .nil, r => r
/-- of the last. -/
def T.last : T → Re
  | .snoc _ n => n.re
  | .set _ => .eps
  | .node _ _ => .eps
  | .nil => .eps
end

/-- The same program. -/
def Same (e f : Re) : Prop := ∀ o, e.code o = f.code o
theorem Same.len {e f : Re} (h : Same e f) : e.len = f.len := by rw [← Re.code_length e 0, h 0, Re.code_length]
theorem Same.refl (e : Re) : Same e e := fun _ => rfl
theorem Same.trans {e f g : Re} (h : Same e f) (k : Same f g) : Same e g := fun o => (h o).trans (k o)
theorem Same.cat {e e' f f' : Re} (h : Same e e') (k : Same f f') : Same (.cat e f) (.cat e' f') := fun o => by rw [Re.code, Re.code, h o, h.len, k]
theorem Same.alt {e e' f f' : Re} (h : Same e e') (k : Same f f') : Same (.alt e f) (.alt e' f') := fun o => by rw [Re.code, Re.code, h, h.len, k, k.len]
theorem Same.star {e e' : Re} (h : Same e e') : Same (.star e) (.star e') := fun o => by rw [Re.code, Re.code, h, h.len]
theorem Same.plus {e e' : Re} (h : Same e e') : Same (.plus e) (.plus e') := fun o => by rw [Re.code, Re.code, h, h.len]
theorem Same.opt {e e' : Re} (h : Same e e') : Same (.opt e) (.opt e') := fun o => by rw [Re.code, Re.code, h, h.len]
theorem Same.assoc (a b c : Re) : Same (.cat (.cat a b) c) (.cat a (.cat b c)) := fun o => by
  simp only [Re.code, Re.len, List.append_assoc, Nat.add_assoc]
theorem Same.eps (e : Re) : Same (.cat .eps e) e := fun o => by simp [Re.code, Re.len]
theorem Same.eps' (e : Re) : Same (.cat e .eps) e := fun o => by simp [Re.code]
theorem Same.altJ : ∀ (l : T) {e f : Re}, Same e f → Same (l.altJ e) (l.altJ f)
  | .snoc l n, e, f, h => by rw [T.altJ, T.altJ]; exact Same.altJ l ((Same.refl n.re).alt h)
  | .set _, e, f, h => by rw [T.altJ, T.altJ]; exact h
  | .node _ _, e, f, h => by rw [T.altJ, T.altJ]; exact h
  | .nil, e, f, h => by rw [T.altJ, T.altJ]; exact h

def Trees (d : Nat) (w : List Nat) (e : Re) : Ty → Prop
  | .atom => ∀ k r t, d ≤ k → Rdy r (w ++ t) → Same (atomT (groupT k) r).re e
  | .pieces => ∀ k n r t l, d ≤ k → Rdy r (w ++ t) → Stop t → w.length < n → Same (piecesT (Rd.group k) (groupT k) n r l).cat (.cat l.cat e)
  | .alts => ∀ k n r t l, d ≤ k → Rdy r (w ++ t) → Rg.Shut t → w.length < n → Same (altsT (Rd.group k) (groupT k) n r l).all (l.altJ e)

theorem goes_atom {d k : Nat} {w t : List Nat} {e : Re} {r : Rd} (h : G .atom d w e) (hk : d ≤ k) (hr : Rdy r (w ++ t)) : Goes r (r.atom (Rd.group k)) t e := by
  rcases reads_all h k r t hr with hg | hd
  · exact hg
  · exact absurd hd.2 (by omega)
theorem goes_pieces {d k n : Nat} {w t : List Nat} {e : Re} {r : Rd} (h : G .pieces d w e) (hk : d ≤ k) (hr : Rdy r (w ++ t)) (ht : Stop t) (hn : w.length < n) : Goes r (Rd.pieces (Rd.group k) n r) t e := by
  rcases reads_all h k n r t hr ht hn with hg | hd
  · exact hg
  · exact absurd hd.2 (by omega)
theorem trees_step {d : Nat} {a v x : List Nat} {e g f : Re} (ha : G .atom d a e) (iha : Trees d a e .atom) (ihv : Trees d v f .pieces)
    (hm : ∀ {r r1 : Rd} {t : List Nat}, Stop t → Goes r r1 (x ++ v ++ t) e → Goes r (r1.many r.l.length) (v ++ t) g)
    (hM : ∀ {r1 : Rd} {t : List Nat} {y : T}, Stop t → Rdy r1 (x ++ v ++ t) → Same y.re e → Same (manyT r1 y).re g) : Trees d (a ++ (x ++ v)) (.cat g f) .pieces := by
  intro k n r t l hk h ht hn
  obtain ⟨c, a', rfl, h1, h2, h3, h4, h5, h6⟩ := ha.atom_head
  obtain ⟨n, rfl⟩ : ∃ m, n = m + 1 := ⟨n - 1, by omega⟩
  have hr : piecesT (Rd.group k) (groupT k) (n + 1) r l = piecesT (Rd.group k) (groupT k) n ((r.atom (Rd.group k)).many r.l.length) (.snoc l (manyT (r.atom (Rd.group k)) (atomT (groupT k) r))) := by
    have h' : Rdy r (c :: (a' ++ (x ++ v) ++ t)) := h
    rw [piecesT, if_neg (by rw [h'.no_stop h1 h2]; simp), if_neg (by rw [h'.an_atom h3 h4 h5 h6]; simp)]
  rw [hr]
  rw [List.append_assoc] at h
  have hg := goes_atom ha hk h
  have hg2 := hm ht hg
  have hs := hM ht hg.rdy (iha k r _ hk h)
  have hp := ihv k n _ t (.snoc l (manyT (r.atom (Rd.group k)) (atomT (groupT k) r))) hk hg2.rdy ht (by simp at hn; omega)
  refine hp.trans ?_
  rw [T.cat]
  exact (((Same.refl _).cat hs).cat (Same.refl _)).trans (Same.assoc _ _ _)
theorem manyT_once {r1 : Rd} {t : List Nat} (h : Rdy r1 t) (ht : Once t) (y : T) : manyT r1 y = y := by
  cases t with
  | nil => simp [manyT, h.isB_nil]
  | cons c t =>
    have := ht c t rfl
    simp [manyT, h.isB, this]
theorem trees_all {Ty' : Ty} {d : Nat} {w : List Nat} {e : Re} (h : G Ty' d w e) : Trees d w e Ty' := by
  induction h with
  | dot =>
    intro k r t _ hr
    have hc : r.cur = 46 := Rdy.cur (t := t) hr
    rw [atomT, if_neg (by omega), if_neg (by omega), if_pos hc]
    exact Same.refl _
  | @esc k c hc =>
    intro k r t _ hr
    have hr' : Rdy r (92 :: c :: t) := hr
    have h92 := hr'.cur
    rw [atomT, if_neg (by omega), if_neg (by omega), if_neg (by omega), if_pos h92, (esc_read hr' hc).2]
    exact Same.refl _
  | @byte k c hc =>
    intro k r t _ hr
    have hr' : Rdy r (c :: t) := hr
    have h0 := hr'.cur
    simp [special] at hc
    rw [atomT, if_neg (by omega), if_neg (by omega), if_neg (by omega), if_neg (by omega), h0]
    exact Same.refl _
  | @cls k w S hc =>
    intro k r t _ hr
    have h1 := class_read hr hc
    have h91 : r.cur = 91 := by
      cases hc <;> exact Rdy.cur hr
    have hS : r.classS = S := by
      have := h1.2
      rw [Rd.class_, Rd.put] at this
      have hl : (Rd.itemsR r.classI.fuel r.classI).l = r.l := by
        rw [(Rd.itemsR_ext r.classI r.classI.fuel).l]
        exact (Rd.isR_ext r.adv 94).l
      rw [hl] at this
      simpa using this
    rw [atomT, if_pos h91, hS]
    exact Same.refl _
  | @group d w e hw ih =>
    intro k r t hk hr
    obtain ⟨k', rfl⟩ : ∃ m, k = m + 1 := ⟨k - 1, by omega⟩
    have hr' : Rdy r (40 :: (w ++ 41 :: t)) := by simpa using hr
    have h40 := hr'.cur
    rw [atomT, if_neg (by omega), if_pos h40, groupT, orT, T.re]
    have ho := hr'.opened
    exact ih k' _ r.opened (41 :: t) .nil (by omega) ho (by intro c v hc; cases hc; rfl) (by rw [ho.fuel]; simp; omega)
  | none =>
    intro k n r t l _ hr ht hn
    have : piecesT (Rd.group k) (groupT k) n r l = l := by
      cases n with
      | zero => rfl
      | succ n => rw [piecesT, if_pos (Rdy.stops hr ht)]
    rw [this]
    exact fun o => (Same.eps' l.cat o).symm
  | @one k a e v f ha hv iha ihv =>
    have := trees_step (x := []) (g := e) ha iha ihv (fun ht hg => by
      rw [many_once hg.rdy (by simpa using hv.pieces_once ht)]; exact hg) (fun ht hr hy => by
      rw [manyT_once hr (by simpa using hv.pieces_once ht)]; exact hy)
    simpa using this
  | @star k a e v f ha hv iha ihv =>
    exact trees_step (x := [42]) ha iha ihv (fun ht hg => many_star hg) (fun ht hr hy => by
      have hr' : Rdy _ (42 :: _) := hr
      simp only [manyT, hr'.isB]
      simp [T.re, T.last]
      exact hy.star)
  | @plus k a e v f ha hv iha ihv =>
    exact trees_step (x := [43]) ha iha ihv (fun ht hg => many_plus hg) (fun ht hr hy => by
      have hr' : Rdy _ (43 :: _) := hr
      simp only [manyT, hr'.isB]
      simp [T.re, T.last]
      exact hy.plus)
  | @opt k a e v f ha hv iha ihv =>
    exact trees_step (x := [63]) ha iha ihv (fun ht hg => many_opt hg) (fun ht hr hy => by
      have hr' : Rdy _ (63 :: _) := hr
      simp only [manyT, hr'.isB]
      simp [T.re, T.last]
      exact hy.opt)
  | @last d w e hw ih =>
    intro k n r t l hk hr ht hn
    obtain ⟨n, rfl⟩ : ∃ m, n = m + 1 := ⟨n - 1, by omega⟩
    have hf : w.length < r.fuel := by rw [hr.fuel]; simp; omega
    have hg := goes_pieces (n := r.fuel) hw hk hr ht.stop hf
    have hb : (Rd.pieces (Rd.group k) r.fuel r).isB 124 = false := by
      cases t with
      | nil => exact hg.rdy.isB_nil _
      | cons c t =>
        have := ht c t rfl
        subst this
        rw [hg.rdy.isB]; rfl
    rw [altsT, if_neg (by rw [hb]; simp), T.all]
    refine Same.altJ l ?_
    rw [catT, T.re]
    exact (ih k r.fuel r t .nil hk hr ht.stop hf).trans (by rw [T.cat]; exact Same.eps e)
  | @alt d w e v f hw hv ihw ihv =>
    intro k n r t l hk hr ht hn
    obtain ⟨n, rfl⟩ : ∃ m, n = m + 1 := ⟨n - 1, by omega⟩
    have hr' : Rdy r (w ++ (124 :: (v ++ t))) := by simpa using hr
    have hst : Stop (124 :: (v ++ t)) := by intro c u hc; cases hc; exact .inl rfl
    have hf : w.length < r.fuel := by rw [hr'.fuel]; simp; omega
    have hg := goes_pieces (n := r.fuel) hw hk hr' hst hf
    have hb : (Rd.pieces (Rd.group k) r.fuel r).isB 124 = true := by rw [hg.rdy.isB]; rfl
    rw [altsT, if_pos hb]
    have hO := (altOnce_goes hg).1
    have hp := ihw k r.fuel r _ .nil hk hr' hst hf
    have h2 := ihv k n _ t (.snoc l (catT (Rd.group k) (groupT k) r)) hk hO ht (by simp at hn; omega)
    refine h2.trans ?_
    rw [T.altJ]
    refine Same.altJ l (Same.alt ?_ (Same.refl f))
    rw [catT, T.re]
    exact hp.trans (by rw [T.cat]; exact Same.eps e)
/-- The whole pattern's tree. -/
def treeOf (s : ByteArray) : T := orT (Rd.group 40) (groupT 40) (Rg.start s)
theorem tree_prog {s : ByteArray} {e : Re} (h : G .alts 40 (nats s) e) : Same (treeOf s).re e := by
  have := trees_all h 40 (Rg.start s).fuel (Rg.start s) [] .nil (Nat.le_refl _) (by simpa using start_rdy s) (by intro c v hc; cases hc) (by rw [(start_rdy s).fuel]; omega)
  rw [T.altJ] at this
  rw [treeOf, orT, T.re]
  exact this
end Go.Proofs.Ytokcffkffcfolaa.Rh
