/-
  The document's trees are well made; the program of a row of kids, piece by piece: plain facts.
-/
import Derived.Test.YtokcffkffcfolaaRhL
namespace Go.Proofs.Ytokcffkffcfolaa.Rh
open Go Go.Proofs.Ytokcffkffcfolaa.Rg

mutual
/-- A node, -/
def T.isN : T → Prop
  | .set _ => True
  | .node k l => ((k = 1 ∨ k = 2) ∧ l.isL ∧ l.len ≤ 20000) ∨ ((k = 4 ∨ k = 5 ∨ k = 6) ∧ l.isL ∧ l.len = 1)
  | .nil => False
  | .snoc _ _ => False
/-- a row of nodes. -/
def T.isL : T → Prop
  | .nil => True
  | .snoc l n => l.isL ∧ n.isN
  | .set _ => False
  | .node _ _ => False
end
theorem one_isL {t : T} (h : t.isN) : (T.snoc .nil t).isL ∧ (T.snoc .nil t).len = 1 := by
  refine ⟨?_, rfl⟩
  rw [T.isL, T.isL]
  exact ⟨trivial, h⟩
theorem manyT_isN (r : Rd) {t : T} (h : t.isN) : (manyT r t).isN := by
  rw [manyT]
  split
  · rw [T.isN]; exact .inr ⟨by decide, one_isL h⟩
  · split
    · rw [T.isN]; exact .inr ⟨by decide, one_isL h⟩
    · split
      · rw [T.isN]; exact .inr ⟨by decide, one_isL h⟩
      · exact h
theorem atomT_isN {grpT : Rd → T} (r : Rd) (hg : (grpT r).isN) : (atomT grpT r).isN := by
  rw [atomT]
  split
  · rw [T.isN]; trivial
  · split
    · exact hg
    · split
      · rw [T.isN]; trivial
      · split
        · rw [T.isN]; trivial
        · rw [T.isN]; trivial
theorem piecesT_isL (grp : Rd → Rd) (hgs : ∀ q : Rd, q.has = true → Nxt q (grp q)) {grpT : Rd → T} (hg : ∀ r : Rd, r.s.size ≤ 4096 → (grpT r).isN) : ∀ (n : Nat) (r : Rd) (l : T), r.s.size ≤ 4096 → l.isL → (piecesT grp grpT n r l).isL ∧ (piecesT grp grpT n r l).len ≤ l.len + n
  | 0, _, _, _, h => ⟨h, Nat.le_refl _⟩
  | n + 1, r, l, hr, h => by
    rw [piecesT]
    split
    · exact ⟨h, by omega⟩
    · rename_i hs
      split
      · exact ⟨h, by omega⟩
      · have hh : r.has = true := by
          apply Classical.byContradiction
          intro hh
          apply hs
          simp only [Rd.stops, Bool.eq_false_iff.2 hh]; rfl
        have h1 := Rd.atom_nxt (r := r) grp hgs hh
        have h2 := Rd.many_nxt (r := r.atom grp) r.l.length h1.mono
        have ih := piecesT_isL grp hgs hg n ((r.atom grp).many r.l.length) (.snoc l (manyT (r.atom grp) (atomT grpT r))) (by rw [h2.s, h1.s]; exact hr) (by rw [T.isL]; exact ⟨h, manyT_isN _ (atomT_isN r (hg r hr))⟩)
        refine ⟨ih.1, ?_⟩
        have := ih.2
        simp only [T.len] at this
        omega
theorem catT_isN (grp : Rd → Rd) (hgs : ∀ q : Rd, q.has = true → Nxt q (grp q)) {grpT : Rd → T} (hg : ∀ r : Rd, r.s.size ≤ 4096 → (grpT r).isN) (r : Rd) (hr : r.s.size ≤ 4096) : (catT grp grpT r).isN := by
  rw [catT, T.isN]
  have := piecesT_isL grp hgs hg r.fuel r .nil hr (by rw [T.isL]; trivial)
  refine .inl ⟨.inl rfl, this.1, ?_⟩
  have h2 := this.2
  simp only [T.len, Rd.fuel] at h2 ⊢
  omega
theorem altsT_isL (grp : Rd → Rd) (hgs : ∀ q : Rd, q.has = true → Nxt q (grp q)) {grpT : Rd → T} (hg : ∀ r : Rd, r.s.size ≤ 4096 → (grpT r).isN) : ∀ (n : Nat) (r : Rd) (l : T), r.s.size ≤ 4096 → l.isL → (altsT grp grpT n r l).isL ∧ (altsT grp grpT n r l).len ≤ l.len + n
  | 0, _, _, _, h => ⟨h, Nat.le_refl _⟩
  | n + 1, r, l, hr, h => by
    have h1 : (T.snoc l (catT grp grpT r)).isL := by rw [T.isL]; exact ⟨h, catT_isN grp hgs hg r hr⟩
    rw [altsT]
    split
    · rename_i hb
      have h2 := Rd.pieces_nxt grp hgs r.fuel r
      have h3 := Rd.altOnce_nxt _ r.l.length hb h2.mono
      have ih := altsT_isL grp hgs hg n _ (.snoc l (catT grp grpT r)) (by rw [h3.s, h2.s]; exact hr) h1
      refine ⟨ih.1, ?_⟩
      have := ih.2
      simp only [T.len] at this
      omega
    · exact ⟨h1, by simp only [T.len]; omega⟩
theorem orT_isN (grp : Rd → Rd) (hgs : ∀ q : Rd, q.has = true → Nxt q (grp q)) {grpT : Rd → T} (hg : ∀ r : Rd, r.s.size ≤ 4096 → (grpT r).isN) (r : Rd) (hr : r.s.size ≤ 4096) : (orT grp grpT r).isN := by
  rw [orT, T.isN]
  have := altsT_isL grp hgs hg r.fuel r .nil hr (by rw [T.isL]; trivial)
  refine .inl ⟨.inr rfl, this.1, ?_⟩
  have h2 := this.2
  simp only [T.len, Rd.fuel] at h2 ⊢
  omega
theorem groupT_isN : ∀ (k : Nat) (r : Rd), r.s.size ≤ 4096 → (groupT k r).isN
  | 0, _, _ => by rw [groupT, T.isN]; trivial
  | k + 1, r, hr => by rw [groupT]; exact orT_isN _ (Rd.group_nxt k) (groupT_isN k) _ hr
theorem treeOf_isN (s : ByteArray) (hs : s.size ≤ 4096) : (treeOf s).isN := orT_isN _ (Rd.group_nxt 40) (groupT_isN 40) _ hs

/-- The kids, in order. -/
def T.kids : T → List T
  | .snoc l n => l.kids ++ [n]
  | .nil => []
  | .set _ => []
  | .node _ _ => []
theorem T.kids_length : ∀ l : T, l.isL → l.kids.length = l.len
  | .snoc l n, h => by
    rw [T.isL] at h
    rw [T.kids, List.length_append, T.kids_length l h.1]; rfl
  | .nil, _ => rfl
  | .set _, h => by rw [T.isL] at h; exact h.elim
  | .node _ _, h => by rw [T.isL] at h; exact h.elim
theorem T.kids_isN : ∀ {l : T}, l.isL → ∀ n ∈ l.kids, n.isN
  | .snoc l m, h, n, hn => by
    rw [T.isL] at h
    rw [T.kids, List.mem_append, List.mem_singleton] at hn
    rcases hn with hn | rfl
    · exact T.kids_isN h.1 n hn
    · exact h.2
  | .nil, _, n, hn => by cases hn
  | .set _, h, _, _ => by rw [T.isL] at h; exact h.elim
  | .node _ _, h, _, _ => by rw [T.isL] at h; exact h.elim

/-- One behind the other. -/
def codeL : List T → Nat → List Inst
  | [], _ => []
  | n :: r, o => n.re.code o ++ codeL r (o + n.re.len)
def lenL : List T → Nat
  | [] => 0
  | n :: r => n.re.len + lenL r
theorem codeL_length : ∀ (l : List T) (o : Nat), (codeL l o).length = lenL l
  | [], _ => rfl
  | n :: r, o => by rw [codeL, List.length_append, Re.code_length, codeL_length r]; rfl
theorem lenL_app : ∀ a b : List T, lenL (a ++ b) = lenL a + lenL b
  | [], b => by simp [lenL]
  | n :: a, b => by rw [List.cons_append, lenL, lenL_app a b, lenL]; omega
theorem codeL_app : ∀ (a b : List T) (o : Nat), codeL (a ++ b) o = codeL a o ++ codeL b (o + lenL a)
  | [], b, o => by simp [codeL, lenL]
  | n :: a, b, o => by rw [List.cons_append, codeL, codeL_app a b, codeL, lenL, List.append_assoc, Nat.add_assoc]
theorem cat_code : ∀ (l : T) (o : Nat), l.isL → l.cat.code o = codeL l.kids o ∧ l.cat.len = lenL l.kids
  | .snoc l n, o, h => by
    rw [T.isL] at h
    have ih := cat_code l o h.1
    rw [T.cat, T.kids, Re.code, Re.len, codeL_app, lenL_app, ih.1, ih.2]
    simp [codeL, lenL]
  | .nil, _, _ => ⟨rfl, rfl⟩
  | .set _, _, h => by rw [T.isL] at h; exact h.elim
  | .node _ _, _, h => by rw [T.isL] at h; exact h.elim

/-- An alternative that is not the last; v: where its jump leads. -/
def seg (n : T) (o v : Nat) : List Inst := ⟨1, .zero, o + 1, o + 2 + n.re.len⟩ :: (n.re.code (o + 1) ++ [⟨2, .zero, v, 0⟩])
def segs : List T → Nat → Nat → List Inst
  | [], _, _ => []
  | n :: r, o, v => seg n o v ++ segs r (o + n.re.len + 2) v
def lenS : List T → Nat
  | [] => 0
  | n :: r => n.re.len + 2 + lenS r
/-- Where the jumps lie. -/
def outsOf : List T → Nat → List Nat
  | [], _ => []
  | n :: r, o => (o + n.re.len + 1) :: outsOf r (o + n.re.len + 2)
theorem seg_length (n : T) (o v : Nat) : (seg n o v).length = n.re.len + 2 := by simp [seg, Re.code_length]
theorem segs_length : ∀ (l : List T) (o v : Nat), (segs l o v).length = lenS l
  | [], _, _ => rfl
  | n :: r, o, v => by rw [segs, List.length_append, seg_length, segs_length r]; rfl
theorem lenS_app : ∀ a b : List T, lenS (a ++ b) = lenS a + lenS b
  | [], b => by simp [lenS]
  | n :: a, b => by rw [List.cons_append, lenS, lenS_app a b, lenS]; omega
theorem segs_app : ∀ (a b : List T) (o v : Nat), segs (a ++ b) o v = segs a o v ++ segs b (o + lenS a) v
  | [], b, o, v => by simp [segs, lenS]
  | n :: a, b, o, v => by
    rw [List.cons_append, segs, segs_app a b, segs, lenS, List.append_assoc]
    congr 3; omega
theorem outsOf_app : ∀ (a b : List T) (o : Nat), outsOf (a ++ b) o = outsOf a o ++ outsOf b (o + lenS a)
  | [], b, o => by simp [outsOf, lenS]
  | n :: a, b, o => by
    rw [List.cons_append, outsOf, outsOf_app a b, outsOf, lenS, List.cons_append]
    congr 3; omega
theorem outsOf_length : ∀ (l : List T) (o : Nat), (outsOf l o).length = l.length
  | [], _ => rfl
  | n :: r, o => by rw [outsOf, List.length_cons, outsOf_length r, List.length_cons]
theorem altJ_code : ∀ (l : T) (e : Re) (o : Nat), l.isL → (l.altJ e).len = lenS l.kids + e.len ∧ (l.altJ e).code o = segs l.kids o (o + lenS l.kids + e.len) ++ e.code (o + lenS l.kids)
  | .snoc l n, e, o, h => by
    rw [T.isL] at h
    have ih := altJ_code l (.alt n.re e) o h.1
    rw [T.altJ, T.kids, lenS_app, segs_app, ih.1, ih.2]
    refine ⟨by simp [lenS, Re.len]; omega, ?_⟩
    simp only [lenS, Re.len, Re.code, segs, seg, List.append_nil, Nat.add_zero, List.append_assoc, List.cons_append, List.nil_append]
    have e1 : o + lenS l.kids + (n.re.len + e.len + 2) = o + (lenS l.kids + (n.re.len + 2)) + e.len := by omega
    have e2 : o + lenS l.kids + 2 + n.re.len + e.len = o + (lenS l.kids + (n.re.len + 2)) + e.len := by omega
    have e3 : o + lenS l.kids + 2 + n.re.len = o + (lenS l.kids + (n.re.len + 2)) := by omega
    rw [e1, e2, e3]
  | .nil, e, o, _ => by simp [T.altJ, T.kids, lenS, segs]
  | .set _, _, _, h => by rw [T.isL] at h; exact h.elim
  | .node _ _, _, _, h => by rw [T.isL] at h; exact h.elim
theorem modify_at (f : Inst → Inst) : ∀ (A : List Inst) (x : Inst) (C : List Inst), (A ++ x :: C).modify A.length f = A ++ f x :: C
  | [], x, C => by simp
  | y :: A, x, C => by
    have := modify_at f A x C
    simpa using this
/-- The jumps are told where they lead. -/
theorem setA_segs (v w : Nat) : ∀ (l : List T) (A B : List Inst), Rd.setA (A ++ segs l A.length w ++ B) v (outsOf l A.length) = A ++ segs l A.length v ++ B
  | [], A, B => rfl
  | n :: r, A, B => by
    have hl : (A ++ seg n A.length v).length = A.length + n.re.len + 2 := by rw [List.length_append, seg_length]; omega
    have h3 : (A ++ ⟨1, .zero, A.length + 1, A.length + 2 + n.re.len⟩ :: n.re.code (A.length + 1)).length = A.length + n.re.len + 1 := by simp [Re.code_length]; omega
    have e1 : (A ++ segs (n :: r) A.length w ++ B).modify (A.length + n.re.len + 1) (fun x => { x with a := v }) = (A ++ seg n A.length v) ++ segs r (A ++ seg n A.length v).length w ++ B := by
      have h2 : A ++ segs (n :: r) A.length w ++ B = (A ++ ⟨1, .zero, A.length + 1, A.length + 2 + n.re.len⟩ :: n.re.code (A.length + 1)) ++ (⟨2, .zero, w, 0⟩ :: (segs r (A.length + n.re.len + 2) w ++ B)) := by
        simp [segs, seg]
      rw [h2, ← h3, modify_at, hl]
      simp [seg]
    rw [outsOf, Rd.setA, e1, ← hl, setA_segs v w r, hl, segs]
    simp
end Go.Proofs.Ytokcffkffcfolaa.Rh
