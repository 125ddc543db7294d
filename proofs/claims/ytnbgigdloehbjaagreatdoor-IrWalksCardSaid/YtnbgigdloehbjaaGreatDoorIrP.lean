/-
  Plans in plain Lean: which may be, and their types (package ir and the document say the same).
-/
import Derived.Test.YtnbgigdloehbjaaGreatDoorIrA
import Derived.Test.YtnbgigdloehbjaaGreatDoorMbP
namespace Go.Proofs.YtnbgigdloehbjaaGreatDoor.Ir
open Go Go.RowKit Go.Proofs.YtnbgigdloehbjaaGreatDoor.Rg Go.Proofs.YtnbgigdloehbjaaGreatDoor.Ma

def dl (l : List ByteArray) : List (Array UInt8) := l.map ByteArray.data
/-- Names, each once, not too many. -/
def onceB (l : List ByteArray) : Bool := decide (l.length ≤ 32) && decide (dl l).Nodup && l.all nameB
def aggE (how : Int) (l : List ByteArray) : Nat := if how < 0 ∨ 2 < how ∨ (how = 0 ∧ 0 < l.length) ∨ onceB l = false then 1 else 0
def joinE (f : Fd) : Nat :=
  if aggE f.xhow f.xn ≠ 0 then 1
  else if f.card < 0 ∨ 2 < f.card ∨ (f.card = 0 ∧ 0 < f.incl.length) ∨ onceB f.incl = false then 1
  else if f.xhow = 1 ∧ (f.incl.any fun s => decide (s.data ∈ dl f.xn)) = true then 1 else 0
/-- How many kids a kind has; below 0: it is none. -/
def kidsOf (k : Int) : Int :=
  if k = 1 ∨ k = 2 ∨ k = 3 ∨ k = 4 ∨ k = 13 then 0
  else if k = 5 ∨ k = 6 ∨ k = 8 ∨ k = 9 ∨ k = 10 ∨ k = 11 ∨ k = 12 then 1
  else if k = 7 then 2 else -1
def mostFn (k : Int) : Int := if k = 4 ∨ k = 5 then 14 else if k = 6 then 5 else if k = 7 then 14 else 8
/-- What is wrong with a node that has so many kids, by itself. -/
def fieldsE (f : Fd) (n : Nat) : Nat :=
  if kidsOf f.kind ≠ n then 1
  else if (f.kind = 3 ∨ f.kind = 4 ∨ f.kind = 12) ∧ errM f.m ≠ 0 then errM f.m
  else if (f.kind = 3 ∨ f.kind = 4 ∨ f.kind = 5) ∧ inB f.offset (-maxT) maxT = false then 1
  else if (f.kind = 4 ∨ f.kind = 5) ∧ inB f.range 1 maxT = false then 1
  else if f.kind = 5 ∧ inB f.step 1 maxT = false then 1
  else if f.kind = 5 ∧ 1000 < f.range / f.step then 6
  else if (f.kind = 4 ∨ f.kind = 5 ∨ f.kind = 6 ∨ f.kind = 7 ∨ f.kind = 8) ∧ inB f.fn 1 (mostFn f.kind) = false then 1
  else if f.kind = 7 then joinE f
  else if f.kind = 8 then aggE f.ghow f.gn
  else if f.kind = 11 ∧ (nameB f.name = false ∨ 256 < f.value.size) then 1
  else 0
def zeroX (f : Fd) : Bool := decide (f.xhow = 0) && decide (f.xn.length = 0) && decide (f.card = 0) && decide (f.incl.length = 0)
/-- The type of an operator of two types; 0: they do not fit. -/
def pairT (f : Fd) (a b : Nat) : Nat :=
  if (f.flag = true ∧ inB f.fn 5 10 = false) ∨ inB f.fn 1 14 = false then 0
  else if a = 1 ∧ b = 1 then (if zeroX f = true ∧ f.fn ≤ 10 ∧ f.flag = decide (5 ≤ f.fn) then 1 else 0)
  else if a = 2 ∧ b = 2 then (if f.fn ≤ 10 ∨ (f.card = 0 ∧ f.incl.length = 0) then 2 else 0)
  else if a + b = 3 then (if zeroX f = true ∧ (f.fn ≤ 10 ∨ (f.fn = 14 ∧ a = 2)) then 2 else 0)
  else 0
/-- A node's type, by its kids'. -/
def typT (f : Fd) (ks : List Nat) : Nat :=
  if f.kind = 1 ∨ f.kind = 2 then 1
  else if f.kind = 6 then ks.getD 0 0
  else if f.kind = 7 then pairT f (ks.getD 0 0) (ks.getD 1 0)
  else if f.kind = 9 then (if ks.getD 0 0 = 2 then 1 else 0)
  else if f.kind = 10 then (if ks.getD 0 0 = 1 then 2 else 0)
  else if f.kind = 8 ∨ f.kind = 11 ∨ f.kind = 12 then (if ks.getD 0 0 = 2 then 2 else 0)
  else 2
mutual
/-- A plan's type, and what is wrong with it. -/
def Nd.chk : Nd → Nat × Nat
  | .mk f l => match l.chks with
    | .inr e => (0, e)
    | .inl ks => if fieldsE f l.len ≠ 0 then (0, fieldsE f l.len) else if typT f ks = 0 then (0, 3) else (typT f ks, 0)
def Kd.chks : Kd → List Nat ⊕ Nat
  | .nil => .inl []
  | .snoc l n => match l.chks with
    | .inr e => .inr e
    | .inl ks => if n.chk.2 ≠ 0 then .inr n.chk.2 else .inl (ks ++ [n.chk.1])
end
def Nd.check (n : Nd) : Nat × Nat := if 400 < n.tot ∨ 40 < n.dep ∨ 4096 < n.prod then (0, 6) else n.chk

theorem Kd.chks_pre : ∀ (l : Kd) (k e : Nat), (l.pre k).chks = .inr e → l.chks = .inr e
  | .nil, _, _, h => h
  | .snoc l n, k, e, h => by
    rw [Kd.pre] at h
    split at h
    · have := l.chks_pre k e h
      rw [Kd.chks, this]
    · exact h
theorem Kd.chks_len : ∀ (l : Kd) (ks : List Nat), l.chks = .inl ks → ks.length = l.len
  | .nil, ks, h => by rw [Kd.chks] at h; cases h; rfl
  | .snoc l n, ks, h => by
    rw [Kd.chks] at h
    cases hl : l.chks with
    | inr e => rw [hl] at h; cases h
    | inl k0 =>
      rw [hl] at h
      have := l.chks_len k0 hl
      by_cases hn : n.chk.2 ≠ 0
      · simp only [if_pos hn] at h; cases h
      · simp only [if_neg hn] at h
        cases h
        rw [List.length_append, this]; rfl
theorem pairT_ty (f : Fd) (a b : Nat) : pairT f a b ≤ 2 := by
  unfold pairT
  repeat' split
  all_goals omega
mutual
theorem Nd.chk_ty : ∀ n : Nd, (n.chk.2 = 0 → n.chk.1 = 1 ∨ n.chk.1 = 2) ∧ (n.chk.2 ≠ 0 → n.chk.1 = 0)
  | .mk f l => by
    have hl := l.chks_ty
    rw [Nd.chk]
    cases hc : l.chks with
    | inr e =>
      have := (hl.2 e hc)
      exact ⟨fun h => absurd h this, fun _ => rfl⟩
    | inl ks =>
      have hk := hl.1 ks hc
      have h0 : ∀ i, ks.getD i 0 ≤ 2 := fun i => by
        rw [List.getD_eq_getElem?_getD]
        cases hi : ks[i]? with
        | none => simp
        | some v =>
          have := hk v (List.mem_of_getElem? hi)
          simp; omega
      simp only
      split
      · exact ⟨fun h => absurd h (by assumption), fun _ => rfl⟩
      · split
        · exact ⟨fun h => absurd h (by decide), fun _ => rfl⟩
        · rename_i h1 h2
          refine ⟨fun _ => ?_, fun h => absurd rfl h⟩
          have ht : typT f ks ≤ 2 := by
            have := h0 0
            have hp := pairT_ty f (ks.getD 0 0) (ks.getD 1 0)
            unfold typT
            repeat' split
            all_goals omega
          simp only; omega
theorem Kd.chks_ty : ∀ l : Kd, (∀ ks, l.chks = .inl ks → ∀ v ∈ ks, v = 1 ∨ v = 2) ∧ (∀ e, l.chks = .inr e → e ≠ 0)
  | .nil => by
    rw [Kd.chks]
    exact ⟨fun ks h v hv => (by cases h; cases hv), fun e h => (by cases h)⟩
  | .snoc l n => by
    have hl := l.chks_ty
    have hn := n.chk_ty
    rw [Kd.chks]
    cases hc : l.chks with
    | inr e =>
      refine ⟨fun ks h => (by cases h), fun e' h => ?_⟩
      cases h
      exact hl.2 e hc
    | inl k0 =>
      by_cases h0 : n.chk.2 ≠ 0
      · simp only [if_pos h0]
        refine ⟨fun ks h => (by cases h), fun e' h => ?_⟩
        cases h
        exact h0
      · simp only [if_neg h0]
        refine ⟨fun ks h v hv => ?_, fun e' h => (by cases h)⟩
        cases h
        rw [List.mem_append, List.mem_singleton] at hv
        rcases hv with hv | rfl
        · exact hl.1 k0 hc v hv
        · exact hn.1 (by omega)
end
end Go.Proofs.YtnbgigdloehbjaaGreatDoor.Ir
