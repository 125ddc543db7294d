/-
  A plan that came in: its tree.
-/
import Derived.Test.YtnbgigdloehbjaaGreatDoorIrQ
import Derived.Deep.Slices
import Derived.Deep.Strs
import Derived.Deep.Fields
import Derived.ChangeSame
namespace Go.Proofs.YtnbgigdloehbjaaGreatDoor.Ir
open Go Go.RowKit Go.Proofs.YtnbgigdloehbjaaGreatDoor.Rg Go.Proofs.YtnbgigdloehbjaaGreatDoor.Ma Go.ChangeShapes Go.WideShapes Go.Deep
set_option maxRecDepth 100000

section
variable {H : Type} {enc : TypeId × Value → H} {W : World}
theorem trod_float' {P : Program} {t : TypeId} {k : FloatKind} {fuel : Nat} {cs : List Value} {x : DataW H × List MemPlace} (ht : P.underlying t = some (.float k)) (h : DataW.trod enc P W 0 (fun _ => true) true fuel t cs = some x) : ∃ b, cs = [.float k b] := by
  cases fuel with
  | zero => simp [DataW.trod] at h
  | succ n =>
    unfold DataW.trod at h
    rw [ht] at h
    split at h <;> simp_all
/-- Pieces of so many cells each, one behind the other. -/
theorem chunks_of (cell : Nat → Option Value) (sz : Nat) (P : List Value → Prop) : ∀ n, (∀ i, i < n → ∃ c : List Value, c.length = sz ∧ P c ∧ ∀ j v, c[j]? = some v → cell (i * sz + j) = some v) →
    ∃ L : List (List Value), L.length = n ∧ L.flatten.length = n * sz ∧ (∀ c ∈ L, c.length = sz ∧ P c) ∧ ∀ j v, L.flatten[j]? = some v → cell j = some v
  | 0, _ => ⟨[], rfl, by simp, fun c h => by simp at h, fun j v h => by simp at h⟩
  | n + 1, h => by
    obtain ⟨L, h1, h2, h3, h4⟩ := chunks_of cell sz P n fun i hi => h i (by omega)
    obtain ⟨c, c1, c2, c3⟩ := h n (by omega)
    refine ⟨L ++ [c], by simp [h1], by simp [h2, c1, Nat.add_mul], fun d hd => ?_, fun j v hj => ?_⟩
    · rw [List.mem_append, List.mem_singleton] at hd
      rcases hd with hd | rfl
      · exact h3 d hd
      · exact ⟨c1, c2⟩
    · rw [List.flatten_append] at hj
      simp only [List.flatten_cons, List.flatten_nil, List.append_nil] at hj
      by_cases hlt : j < L.flatten.length
      · rw [List.getElem?_append_left hlt] at hj
        exact h4 j v hj
      · rw [List.getElem?_append_right (by omega), h2] at hj
        have := c3 _ v hj
        rwa [show n * sz + (j - n * sz) = j by omega] at this
/-- A slice that came in, opened. -/
theorem open_row {t e : TypeId} {fuel : Nat} {cs : List Value} {x : DataW H × List MemPlace} (sz : Nat) (hsz : 0 < sz) (hC : Tryz.prog.cellsOf e = sz) (ht : Tryz.prog.underlying t = some (.slice e)) (h : DataW.trod enc Tryz.prog W 0 (fun _ => true) true fuel t cs = some x)
    (P : List Value → Prop) (hP : ∀ n c y, n < fuel → c.length = sz → DataW.trod enc Tryz.prog W 0 (fun _ => true) true n e c = some y → P c) :
    ∃ (v : Value) (L : List (List Value)), cs = [v] ∧ Row W Any v L.length sz L.flatten ∧ L.length ≤ maxLen ∧ ∀ c ∈ L, c.length = sz ∧ P c := by
  rcases DataW.trod_slice ht h with ⟨rfl, _⟩ | ⟨a, len, cap, elems, rest, n, hfu, rfl, _, _, hl, hm, hlen, hel, _⟩
  · exact ⟨_, [], rfl, ⟨by simp, none, 0, rfl, fun h => by simp at h⟩, Nat.zero_le _, fun c h => by simp at h⟩
  · rw [hC] at hel
    obtain ⟨L, h1, h2, h3, h4⟩ := chunks_of (fun j => W.cell? (a.add j)) sz P len fun i hi => by
      have h5 := hel i hi
      have h6 : elems[i]? = some elems[i] := List.getElem?_eq_getElem (by omega)
      rw [h6] at h5
      obtain ⟨c, hc, hy⟩ := Option.bind_eq_some_iff.1 h5
      obtain ⟨_, hcl, hat⟩ := World.cells?_some hc
      refine ⟨c, hcl, hP n c _ (by omega) hcl hy, fun j v hj => ?_⟩
      have hjl := (List.getElem?_eq_some_iff.1 hj).1
      have := hat j (by omega)
      rw [Go.Deep.add_add] at this
      exact this.trans hj
    refine ⟨_, L, rfl, ⟨by rw [h2, h1], some a, cap, by rw [h1], fun h0 => ?_⟩, by omega, h3⟩
    have h7 : 0 < L.flatten.length := by rw [h2, ← h1]; exact Nat.mul_pos h0 hsz
    have h8 := h4 0 _ (List.getElem?_eq_getElem h7)
    obtain ⟨b, o, sp⟩ := a
    have hsp : sp = none := by simpa [Addr.add] using World.cell?_spot h8
    subst hsp
    exact ⟨b, o, trivial, rfl, fun j v hj => by have := h4 j v hj; rwa [Addr.add_mid] at this⟩
theorem flat_s : ∀ L : List (List Value), (∀ c ∈ L, c.length = 1 ∧ ∃ s : ByteArray, c = [.string s]) → ∃ l : List ByteArray, L.length = l.length ∧ L.flatten = scells l
  | [], _ => ⟨[], rfl, rfl⟩
  | c :: L, h => by
    obtain ⟨l, h1, h2⟩ := flat_s L fun d hd => h d (by simp [hd])
    obtain ⟨_, s, rfl⟩ := h c (by simp)
    exact ⟨s :: l, by simp [h1], by simp [h2, scells]⟩
theorem flat_m : ∀ L : List (List Value), (∀ c ∈ L, c.length = 3 ∧ ∃ m : Mr, c = [.int .i64 m.kind, .string m.name, .string m.value]) → ∃ l : List Mr, L.length = l.length ∧ L.flatten = mcells l
  | [], _ => ⟨[], rfl, rfl⟩
  | c :: L, h => by
    obtain ⟨l, h1, h2⟩ := flat_m L fun d hd => h d (by simp [hd])
    obtain ⟨_, m, rfl⟩ := h c (by simp)
    exact ⟨m :: l, by simp [h1], by simp [h2, mcells]⟩
theorem flat_n (L : List (List Value)) (h : ∀ c ∈ L, c.length = 17 ∧ ∃ n : Nd, n.Held W Any c) : ∃ l : Kd, L.length = l.len ∧ l.Held W Any L.flatten := by
  have key : ∀ M : List (List Value), (∀ c ∈ M.reverse, c.length = 17 ∧ ∃ n : Nd, n.Held W Any c) → ∃ l : Kd, M.reverse.length = l.len ∧ l.Held W Any M.reverse.flatten := by
    intro M
    induction M with
    | nil => exact fun _ => ⟨.nil, rfl, rfl⟩
    | cons c M ih =>
      intro h
      rw [List.reverse_cons] at h ⊢
      obtain ⟨l, h1, h2⟩ := ih fun d hd => h d (by rw [List.mem_append]; exact .inl hd)
      obtain ⟨hc, n, hn⟩ := h c (by simp)
      refine ⟨.snoc l n, by rw [List.length_append, h1]; rfl, ?_⟩
      rw [List.flatten_append]
      simp only [List.flatten_cons, List.flatten_nil, List.append_nil]
      exact ⟨_, c, rfl, hc, h2, hn⟩
  have := key L.reverse
  rw [List.reverse_reverse] at this
  exact this h
theorem open_strs {fuel : Nat} {cs : List Value} {x : DataW H × List MemPlace} (h : DataW.trod enc Tryz.prog W 0 (fun _ => true) true fuel 24 cs = some x) : ∃ (v : Value) (l : List ByteArray), cs = [v] ∧ Row W Any v l.length 1 (scells l) := by
  obtain ⟨v, L, h1, h2, _, h3⟩ := open_row 1 (by decide) (by kernel_rfl) Tryz.underlying24 h (fun c => ∃ s : ByteArray, c = [.string s]) fun n c y _ _ hy => by
    obtain ⟨s, e, _⟩ := DataW.trod_string Tryz.underlying9 hy
    exact ⟨s, e⟩
  obtain ⟨l, e1, e2⟩ := flat_s L h3
  rw [e1, e2] at h2
  exact ⟨v, l, h1, h2⟩
theorem open_mats {fuel : Nat} {cs : List Value} {x : DataW H × List MemPlace} (h : DataW.trod enc Tryz.prog W 0 (fun _ => true) true fuel 23 cs = some x) : ∃ (v : Value) (l : List Mr), cs = [v] ∧ Row W Any v l.length 3 (mcells l) := by
  obtain ⟨v, L, h1, h2, _, h3⟩ := open_row 3 (by decide) (by kernel_rfl) Tryz.underlying23 h (fun c => ∃ m : Mr, c = [.int .i64 m.kind, .string m.name, .string m.value]) fun n c y _ hc hy => by
    obtain ⟨y0, y1, y2, k, _, _, g0, g1, g2⟩ := trod_struct3 Tryz.underlying48 hy
    match c, hc with
    | [u0, u1, u2], _ =>
      obtain ⟨z, e0, _⟩ := DataW.trod_int (k := .i64) Tryz.underlying3 g0
      obtain ⟨s, e1, _⟩ := DataW.trod_string Tryz.underlying9 g1
      obtain ⟨t, e2, _⟩ := DataW.trod_string Tryz.underlying9 g2
      have k0 : ([u0, u1, u2].drop 0).take 1 = [Value.int .i64 z] := e0
      have k1 : ([u0, u1, u2].drop 1).take 1 = [Value.string s] := e1
      have k2 : ([u0, u1, u2].drop 2).take 1 = [Value.string t] := e2
      simp at k0 k1 k2
      subst k0 k1 k2
      exact ⟨⟨z, s, t⟩, rfl⟩
  obtain ⟨l, e1, e2⟩ := flat_m L h3
  rw [e1, e2] at h2
  exact ⟨v, l, h1, h2⟩
theorem open_grp {fuel : Nat} {u0 u1 : Value} {x : DataW H × List MemPlace} (h : DataW.trod enc Tryz.prog W 0 (fun _ => true) true fuel 26 [u0, u1] = some x) : ∃ (z : Int) (l : List ByteArray), u0 = .int .i64 z ∧ Row W Any u1 l.length 1 (scells l) := by
  obtain ⟨y0, y1, k, _, _, g0, g1⟩ := trod_struct2 Tryz.underlying26 h
  obtain ⟨z, e0, _⟩ := DataW.trod_int (k := .i64) Tryz.underlying3 g0
  obtain ⟨v, l, e1, hr⟩ := open_strs g1
  have k0 : ([u0, u1].drop 0).take 1 = [Value.int .i64 z] := e0
  have k1 : ([u0, u1].drop 1).take 1 = [v] := e1
  simp at k0 k1
  subst k0 k1
  exact ⟨z, l, rfl, hr⟩
theorem open_mch {fuel : Nat} {u0 u1 u2 u3 : Value} {x : DataW H × List MemPlace} (h : DataW.trod enc Tryz.prog W 0 (fun _ => true) true fuel 28 [u0, u1, u2, u3] = some x) :
    ∃ (z c : Int) (l m : List ByteArray), u0 = .int .i64 z ∧ Row W Any u1 l.length 1 (scells l) ∧ u2 = .int .i64 c ∧ Row W Any u3 m.length 1 (scells m) := by
  obtain ⟨y0, y1, y2, k, _, _, g0, g1, g2⟩ := trod_struct3 Tryz.underlying28 h
  have hC : Tryz.prog.cellsOf 26 = 2 := by kernel_rfl
  have g0' : DataW.trod enc Tryz.prog W 0 (fun _ => true) true k 26 [u0, u1] = some y0 := by
    have e : ([u0, u1, u2, u3].drop 0).take (Tryz.prog.cellsOf 26) = [u0, u1] := by rw [hC]; rfl
    rw [← e]; exact g0
  obtain ⟨z, l, e0, hr⟩ := open_grp g0'
  obtain ⟨c, e1, _⟩ := DataW.trod_int (k := .i64) Tryz.underlying3 g1
  obtain ⟨v, m, e2, hr2⟩ := open_strs g2
  have k1 : ([u0, u1, u2, u3].drop 2).take 1 = [Value.int .i64 c] := e1
  have k2 : ([u0, u1, u2, u3].drop 3).take 1 = [v] := e2
  simp at k1 k2
  subst k1 k2
  exact ⟨z, c, l, m, e0, hr, rfl, hr2⟩
/-- A plan that came in. -/
theorem open_nd : ∀ (fuel : Nat) (cs : List Value) (x : DataW H × List MemPlace), cs.length = 17 → DataW.trod enc Tryz.prog W 0 (fun _ => true) true fuel 31 cs = some x → ∃ n : Nd, n.Held W Any cs := by
  intro fuel
  induction fuel using Nat.strongRecOn with
  | _ fuel ih =>
    intro cs x hl h
    obtain ⟨xs, n, hfu, _, _, hxl, hf⟩ := DataW.trod_struct Tryz.underlying31 h
    match cs, hl with
    | [u0, u1, u2, u3, u4, u5, u6, u7, u8, u9, u10, u11, u12, u13, u14, u15, u16], _ =>
      have some_of : ∀ i, i < 13 → ∃ y, xs[i]? = some y := fun i hi => ⟨_, List.getElem?_eq_getElem (by rw [hxl]; exact hi)⟩
      have hC26 : Tryz.prog.cellsOf 26 = 2 := by kernel_rfl
      have hC28 : Tryz.prog.cellsOf 28 = 4 := by kernel_rfl
      obtain ⟨y0, e0⟩ := some_of 0 (by decide)
      obtain ⟨y1, e1⟩ := some_of 1 (by decide)
      obtain ⟨y2, e2⟩ := some_of 2 (by decide)
      obtain ⟨y3, e3⟩ := some_of 3 (by decide)
      obtain ⟨y4, e4⟩ := some_of 4 (by decide)
      obtain ⟨y5, e5⟩ := some_of 5 (by decide)
      obtain ⟨y6, e6⟩ := some_of 6 (by decide)
      obtain ⟨y7, e7⟩ := some_of 7 (by decide)
      obtain ⟨y8, e8⟩ := some_of 8 (by decide)
      obtain ⟨y9, e9⟩ := some_of 9 (by decide)
      obtain ⟨y10, e10⟩ := some_of 10 (by decide)
      obtain ⟨y11, e11⟩ := some_of 11 (by decide)
      obtain ⟨y12, e12⟩ := some_of 12 (by decide)
      have g0 : DataW.trod enc Tryz.prog W 0 (fun _ => true) true n 3 [u0] = some y0 := (hf 0 _ rfl).trans e0
      have g1 : DataW.trod enc Tryz.prog W 0 (fun _ => true) true n 22 [u1] = some y1 := (hf 1 _ rfl).trans e1
      have g2 : DataW.trod enc Tryz.prog W 0 (fun _ => true) true n 3 [u2] = some y2 := (hf 2 _ rfl).trans e2
      have g3 : DataW.trod enc Tryz.prog W 0 (fun _ => true) true n 23 [u3] = some y3 := (hf 3 _ rfl).trans e3
      have g4 : DataW.trod enc Tryz.prog W 0 (fun _ => true) true n 3 [u4] = some y4 := (hf 4 _ rfl).trans e4
      have g5 : DataW.trod enc Tryz.prog W 0 (fun _ => true) true n 3 [u5] = some y5 := (hf 5 _ rfl).trans e5
      have g6 : DataW.trod enc Tryz.prog W 0 (fun _ => true) true n 3 [u6] = some y6 := (hf 6 _ rfl).trans e6
      have g7 : DataW.trod enc Tryz.prog W 0 (fun _ => true) true n 26 [u7, u8] = some y7 := by
        have := (hf 7 _ rfl).trans e7
        have e : ([u0, u1, u2, u3, u4, u5, u6, u7, u8, u9, u10, u11, u12, u13, u14, u15, u16].drop 7).take (Tryz.prog.cellsOf 26) = [u7, u8] := by rw [hC26]; rfl
        rw [← e]; exact this
      have g8 : DataW.trod enc Tryz.prog W 0 (fun _ => true) true n 28 [u9, u10, u11, u12] = some y8 := by
        have := (hf 8 _ rfl).trans e8
        have e : ([u0, u1, u2, u3, u4, u5, u6, u7, u8, u9, u10, u11, u12, u13, u14, u15, u16].drop 9).take (Tryz.prog.cellsOf 28) = [u9, u10, u11, u12] := by rw [hC28]; rfl
        rw [← e]; exact this
      have g9 : DataW.trod enc Tryz.prog W 0 (fun _ => true) true n 4 [u13] = some y9 := (hf 9 _ rfl).trans e9
      have g10 : DataW.trod enc Tryz.prog W 0 (fun _ => true) true n 9 [u14] = some y10 := (hf 10 _ rfl).trans e10
      have g11 : DataW.trod enc Tryz.prog W 0 (fun _ => true) true n 9 [u15] = some y11 := (hf 11 _ rfl).trans e11
      have g12 : DataW.trod enc Tryz.prog W 0 (fun _ => true) true n 29 [u16] = some y12 := (hf 12 _ rfl).trans e12
      obtain ⟨a0, q0, _⟩ := DataW.trod_int (k := .i64) Tryz.underlying3 g0
      obtain ⟨a1, q1⟩ := trod_float' (k := .f64) Tryz.underlying22 g1
      obtain ⟨a2, q2, _⟩ := DataW.trod_int (k := .i64) Tryz.underlying3 g2
      obtain ⟨v3, a3, q3, r3⟩ := open_mats g3
      obtain ⟨a4, q4, _⟩ := DataW.trod_int (k := .i64) Tryz.underlying3 g4
      obtain ⟨a5, q5, _⟩ := DataW.trod_int (k := .i64) Tryz.underlying3 g5
      obtain ⟨a6, q6, _⟩ := DataW.trod_int (k := .i64) Tryz.underlying3 g6
      obtain ⟨a7, a8, q7, r8⟩ := open_grp g7
      obtain ⟨a9, a11, a10, a12, q9, r10, q11, r12⟩ := open_mch g8
      obtain ⟨a13, q13, _⟩ := DataW.trod_bool Tryz.underlying4 g9
      obtain ⟨a14, q14, _⟩ := DataW.trod_string Tryz.underlying9 g10
      obtain ⟨a15, q15, _⟩ := DataW.trod_string Tryz.underlying9 g11
      obtain ⟨v16, L, q16, r16, _, hL⟩ := open_row 17 (by decide) (by kernel_rfl) Tryz.underlying29 g12 (fun c => ∃ n : Nd, n.Held W Any c) fun m c y hm hc hy => ih m (by omega) c y hc hy
      obtain ⟨l, el, hH⟩ := flat_n L hL
      rw [el] at r16
      simp only [List.cons.injEq, and_true] at q0 q1 q2 q3 q4 q5 q6 q13 q14 q15 q16
      subst q0 q1 q2 q3 q4 q5 q6 q7 q9 q11 q13 q14 q15 q16
      refine ⟨.mk ⟨a0, a1, a2, a3, a4, a5, a6, a7, a8, a9, a10, a11, a12, a13, a14, a15⟩ l, ?_⟩
      rw [Nd.Held]
      exact ⟨_, _, _, _, _, L.flatten, rfl, ⟨r3, r8, r10, r12⟩, hH, r16⟩
end
end Go.Proofs.YtnbgigdloehbjaaGreatDoor.Ir
