/-
  Few labels; appending matchers to a row of one's own.
-/
import Derived.Test.YtokcffkffcfolaaMbD
namespace Go.Proofs.Ytokcffkffcfolaa.Ma
open Go Go.RowKit Go.Proofs.Ytokcffkffcfolaa.Rg

def Lb.small (x : Lb) : Bool := decide (x.name.size ≤ 400) && decide (x.value.size ≤ 2000)
def fewLB (l : List Lb) : Bool := decide (l.length ≤ 80) && l.all Lb.small
set_option maxRecDepth 100000 in
set_option maxHeartbeats 4000000 in
theorem fewL_calls (v : Value) (l : List Lb) (W : World) (hR : RowL W v l) (hl : l.length ≤ maxLen) (x : Bool) (hx : fewLB l = x) : Calls Try.prog 26 #[v] W fun e W' => e = .returned (.bool x) ∧ W = W' := by
  unfold maxLen at hl
  obtain ⟨ao, cap, rfl, hc⟩ := hR.val
  have HC := Lib.hid hc; clear hc hR
  have HX := Lib.hid hx; clear hx
  by_cases h80 : 80 < l.length
  · have hfin : x = false := by rw [← HX.out, fewLB, decide_eq_false (by omega)]; rfl
    have HF := Lib.hid hfin; clear hfin
    go_enter Try.func26, Try.ntmps26
    go_wp2_with fail
    go_ret
    exact ⟨by rw [HF.out]; rfl, rfl⟩
  go_enter Try.func26, Try.ntmps26
  go_wp2_with fail
  go_loopw [3] (fun i wr => ∃ k : Nat, k ≤ l.length ∧ i = .int .i64 (k : Int) ∧ (l.take k).all Lb.small = true ∧ wr = W) (fun i _ => l.length - (intOf i).toNat)
  case atStart => exact ⟨0, Nat.zero_le _, rfl, rfl, rfl⟩
  case round =>
    obtain ⟨k, hk, rfl, hall, rfl⟩ := hrel
    have HAll := Lib.hid hall; clear hall
    by_cases hkl : k < l.length
    · obtain ⟨b, o, rfl, hm⟩ := HC.out (by omega)
      obtain ⟨m, hmk⟩ : ∃ m, l[k]? = some m := ⟨_, List.getElem?_eq_getElem hkl⟩
      obtain ⟨c0, c1⟩ := hm k m hmk
      clear hm
      have htk : (l.take (k + 1)).all Lb.small = m.small := by
        rw [List.take_add_one, hmk, List.all_append, HAll.out]; simp
      have hno : m.small = false → x = false := fun h => by
        rw [← HX.out, fewLB, Bool.and_eq_false_iff]
        right
        rw [List.all_eq_false]
        exact ⟨m, List.mem_of_getElem? hmk, by rw [h]; simp⟩
      have HMk := Lib.hid hmk; clear hmk
      by_cases h1 : m.name.size ≤ 400
      · by_cases h2 : m.value.size ≤ 2000
        · have hall' : (l.take (k + 1)).all Lb.small = true := by rw [htk]; simp [Lb.small, h1, h2]
          have HA := Lib.hid hall'; clear hall' htk hno
          go_wp2_with fail
          go_roundw
          case rel => exact ⟨k + 1, by omega, by go_num, HA.out, trivial⟩
          case measure => (simp [intOf] <;> omega)
        · have hfin : x = false := hno (by simp [Lb.small, h2])
          have HF := Lib.hid hfin; clear hfin htk hno
          go_wp2_with fail
          go_ret
          exact ⟨by rw [HF.out]; rfl, rfl⟩
      · have hfin : x = false := hno (by simp [Lb.small, h1])
        have HF := Lib.hid hfin; clear hfin htk hno
        go_wp2_with fail
        go_ret
        exact ⟨by rw [HF.out]; rfl, rfl⟩
    · have h2 : l.all Lb.small = true := by rw [← HAll.out, List.take_of_length_le (by omega)]
      have hfin : x = true := by rw [← HX.out, fewLB, h2, decide_eq_true (by omega)]; rfl
      have HF := Lib.hid hfin; clear hfin
      go_wp2_with fail
      go_ret
      exact ⟨by rw [HF.out]; rfl, rfl⟩

/-- A row of matchers of one's own, from base on; below base nothing has turned since W. -/
structure OwnM (W w : World) (base : Nat) (v : Value) (L : List Mr) : Prop where
  own : w.ownsRow base 48 3 v L.length (mflat L)
  bel : Below base W w
  bas : base ≤ W.heap.size
theorem append_of_nil (w : World) (base : Nat) (t ty e : TypeId) (i : TypeInfo) (size : Nat) (ht : Try.prog.underlying t = some (.slice e)) (hi : Try.prog.info? e = some i)
    (v : Value) (n : Nat) (xs : List Value) (hown : w.ownsRow base e size v n xs) (c : Nat) : (Builtin.append_ #[t, t] ty #[v, .slice none 0 c]).run Try.prog w = .ok v w := by
  rcases hown.2 with ⟨rfl, rfl⟩ | ⟨g, cap, cur, rfl, _, _, hnc, _⟩
  · simp [Builtin.append_, run_underlying ht, sizeOf, typeInfo, hi, Builtin.lenOf, Builtin.firstCells]
  · simp [Builtin.append_, run_underlying ht, sizeOf, typeInfo, hi, Builtin.lenOf, Builtin.firstCells, hnc, storeCells]
theorem run_appM (ty : TypeId) {W w : World} {base : Nat} {v vx : Value} {L l : List Mr} (h : OwnM W w base v L) (hR : RowM w vx l) (hN : L.length + l.length ≤ 1000) :
    ∃ v2 w2, (Builtin.append_ #[50, 50] ty #[v, vx]).run Try.prog w = .ok v2 w2 ∧ OwnM W w2 base v2 (L ++ l) ∧ w.grownBy w2 v.ownBlock ∧ (v2.ownBlock = v.ownBlock ∨ v2.ownBlock = some w.heap.size) := by
  obtain ⟨i0, hi0, hz0, hz1, hz2⟩ := info_parts infoM
  obtain ⟨ao, cap, rfl, hc⟩ := hR.val
  have hsz := h.bel.size
  have hbs := h.bas
  cases ao with
  | none =>
    have hl0 : l = [] := by
      cases l with
      | nil => rfl
      | cons x l => obtain ⟨_, _, e, _⟩ := hc (by simp); cases e
    subst hl0
    refine ⟨v, w, append_of_nil w base _ ty 48 i0 3 Try.underlying50 hi0 v _ _ h.own cap, by rw [List.append_nil]; exact h, ⟨rfl, rfl, rfl, Nat.le_refl _, fun _ _ _ => rfl⟩, .inl rfl⟩
  | some ad =>
    have hnews : ∀ j u, (mflat l)[j]? = some u → w.cell? (ad.add j) = some u := by
      by_cases h0 : l.length = 0
      · have hl0 : l = [] := List.eq_nil_of_length_eq_zero h0
        subst hl0
        intro j u hj
        simp [mflat] at hj
      · obtain ⟨b, o', e, _⟩ := hc (by omega)
        cases e
        exact hR.news
    have hle : w.heap.size ≥ base := by
      have := h.bel.size
      omega
    obtain ⟨v2, w2, hr, hown, hg, _, hb⟩ := run_append_own_at (P := Try.prog) w base 50 ty 48 i0 (.agg #[.int .i64 0, .string ⟨#[]⟩, .string ⟨#[]⟩]) 3 40 Try.underlying50 hi0 hz0 hz1 hz2 rfl (by decide) v L.length (mflat L) h.own ad l.length cap (mflat l) (mflat_length l) hnews (mflat_one l) (by unfold maxLen; omega) (by omega) hle
    exact ⟨v2, w2, hr, ⟨by rw [List.length_append, mflat_append]; exact hown, h.bel.grown hg hle (fun k hk => (h.own.lt k hk).1), hbs⟩, hg, hb⟩
theorem wp_appM {o : Oper} {a : Act} {K : Act → World → Prop} {Q : Exit → Act → World → Prop} (s x : Operand)
    (ho : o.op = .call { callee := .builtin .append, args := #[s, x], argTypes := #[50, 50] })
    {W w : World} {base : Nat} {v vx : Value} {L l : List Mr} (h : OwnM W w base v L) (hR : RowM w vx l) (hN : L.length + l.length ≤ 1000) (hs : a.eval s = v) (hx : a.eval x = vx)
    (hk : ∀ v2 w2, OwnM W w2 base v2 (L ++ l) → w.grownBy w2 v.ownBlock → (v2.ownBlock = v.ownBlock ∨ v2.ownBlock = some w.heap.size) → K (a.put o.dst v2) w2) : o.wp Try.prog a w K Q := by
  obtain ⟨v2, w2, hr, h2, h3, h4⟩ := run_appM o.type h hR hN
  unfold Oper.wp execOp
  simp only [ho, resolve, invoke, builtin, Sem.run_bind, Sem.run_pure, Result.andThen_ok, List.map_toArray, List.map_cons, List.map_nil, hs, hx, hr]
  exact hk v2 w2 h2 h3 h4
theorem step_appM {ops : Array Oper} {o : Oper} {a : Act} {K : Act → World → Prop} {Q : Exit → Act → World → Prop} {E : Prop} (hgd : o.guard = none) (s x : Operand)
    (ho : o.op = .call { callee := .builtin .append, args := #[s, x], argTypes := #[50, 50] })
    {W w : World} {base : Nat} {v vx : Value} {L l : List Mr} (h : OwnM W w base v L) (hR : RowM w vx l) (hN : L.length + l.length ≤ 1000) (hs : a.eval s = v) (hx : a.eval x = vx)
    (hk : ∀ v2 w2, OwnM W w2 base v2 (L ++ l) → w.grownBy w2 v.ownBlock → (v2.ownBlock = v.ownBlock ∨ v2.ownBlock = some w.heap.size) → K (a.put o.dst v2) w2) :
    if Region.wanted o (yielded ops a.tmps) = true then Oper.wp Try.prog o a w K Q else E := by
  have hw : Region.wanted o (yielded ops a.tmps) = true := by simp [Region.wanted, hgd]
  rw [if_pos hw]
  exact wp_appM s x ho h hR hN hs hx hk
end Go.Proofs.Ytokcffkffcfolaa.Ma
