/-
  slices.Clone of matchers.
  Labels: rows of them in memory; the value of a name (Get).
  A set of matchers (match.New): the map of programs.
  A set of matchers (match.New): the walk.
  Whether a matcher holds of a value (holds); whether labels are meant (Match).
  Whether labels are meant by a set of matchers (Match).
-/
import Derived.Test.YtokcffkffcfolaaMbB
import Derived.WalkSpells
import Derived.Maps.Own
import Derived.Maps.Views
import Derived.Carry
import Derived.Deep.RegionHeld3
namespace Go.Proofs.Ytokcffkffcfolaa.Ma
open Go Go.RowKit Go.Proofs.Ytokcffkffcfolaa.Rg

def mcells (m : Mr) : List Value := [.int .i64 m.kind, .string m.name, .string m.value]
def mflat (l : List Mr) : List Value := l.flatMap mcells
theorem mflat_length (l : List Mr) : (mflat l).length = l.length * 3 := by
  induction l with
  | nil => rfl
  | cons x l ih => simp only [mflat, List.flatMap_cons, List.length_append] at *; rw [ih]; simp [mcells]; omega
theorem mflat_append (l m : List Mr) : mflat (l ++ m) = mflat l ++ mflat m := by simp [mflat]
theorem mflat_get (l : List Mr) (i j : Nat) (m : Mr) (hi : l[i]? = some m) (hj : j < 3) : (mflat l)[i * 3 + j]? = (mcells m)[j]? := by
  induction l generalizing i with
  | nil => simp at hi
  | cons x l ih =>
    have hx : (mcells x).length = 3 := rfl
    cases i with
    | zero =>
      simp only [List.getElem?_cons_zero, Option.some.injEq] at hi
      subst hi
      simp only [mflat, List.flatMap_cons, Nat.zero_mul, Nat.zero_add]; rw [List.getElem?_append_left (by omega)]
    | succ i =>
      simp only [List.getElem?_cons_succ] at hi
      simp only [mflat, List.flatMap_cons] at *
      rw [List.getElem?_append_right (by omega), ← ih i hi]
      congr 1; omega
theorem mflat_one (l : List Mr) : ∀ u ∈ mflat l, u.oneCell' = true := by
  intro u hu
  simp only [mflat, List.mem_flatMap, mcells] at hu
  obtain ⟨m, _, hm⟩ := hu
  simp at hm
  rcases hm with rfl | rfl | rfl <;> rfl
theorem infoM : (Try.prog.info? 48).map (fun i => (i.zero, i.size, i.bytes)) = some (some (.agg #[.int .i64 0, .string ⟨#[]⟩, .string ⟨#[]⟩]), 3, 40) := by kernel_rfl
/-- A row of matchers of one's own is a row of matchers. -/
theorem RowM.of_own {w : World} {base : Nat} {v : Value} {l : List Mr} (h : w.ownsRow base 48 3 v l.length (mflat l)) : RowM w v l := by
  rcases h.2 with ⟨rfl, h0⟩ | ⟨g, cap, cur, rfl, hb, hg, hn, hc, hsz, htk⟩
  · exact ⟨none, 0, by rw [h0], fun h => by omega⟩
  · refine ⟨_, cap, rfl, fun _ => ⟨g, 0, rfl, fun i m hi => ?_⟩⟩
    have hlt := (List.getElem?_eq_some_iff.1 hi).1
    have hcell : ∀ j, j < 3 → w.cell? ⟨g, i * 3 + j, none⟩ = (mcells m)[j]? := fun j hj => by
      rw [h.cellAt (i * 3 + j) (by omega), mflat_get l i j m hi hj]
    rw [Nat.zero_add]
    exact ⟨hcell 0 (by omega), hcell 1 (by omega), hcell 2 (by omega)⟩
/-- The cells of a row of matchers. -/
theorem RowM.news {W : World} {b o : Nat} {cap : Nat} {l : List Mr} (h : RowM W (.slice (some ⟨b, o, none⟩) l.length cap) l) : ∀ j u, (mflat l)[j]? = some u → W.cell? ((⟨b, o, none⟩ : Addr).add j) = some u := by
  intro j u hj
  have hlt := (List.getElem?_eq_some_iff.1 hj).1
  rw [mflat_length] at hlt
  obtain ⟨_, _, hv, hc⟩ := h.val
  simp only [Value.slice.injEq, true_and] at hv
  obtain ⟨rfl, rfl⟩ := hv
  obtain ⟨b', o', e, hm⟩ := hc (by omega)
  cases e
  obtain ⟨m, hmk⟩ : ∃ m, l[j / 3]? = some m := ⟨_, List.getElem?_eq_getElem (by omega)⟩
  obtain ⟨c0, c1, c2⟩ := hm _ m hmk
  have h1 := mflat_get l (j / 3) (j % 3) m hmk (by omega)
  rw [show j / 3 * 3 + j % 3 = j by omega, hj] at h1
  rw [Addr.add_mid]
  have h3 : j % 3 = 0 ∨ j % 3 = 1 ∨ j % 3 = 2 := by omega
  rcases h3 with h3 | h3 | h3
  · rw [h3] at h1
    rw [show o + j = o + j / 3 * 3 by omega, c0]; simpa [mcells] using h1.symm
  · rw [h3] at h1
    rw [show o + j = o + j / 3 * 3 + 1 by omega, c1]; simpa [mcells] using h1.symm
  · rw [h3] at h1
    rw [show o + j = o + j / 3 * 3 + 2 by omega, c2]; simpa [mcells] using h1.symm
def ClonePost (W : World) (l : List Mr) (e : Ending) (W' : World) : Prop := ∃ v', e = .returned v' ∧ RowM W' v' l ∧ Below W.heap.size W W'
set_option maxRecDepth 100000 in
set_option maxHeartbeats 4000000 in
theorem clone_calls (v : Value) (l : List Mr) (W : World) (hR : RowM W v l) (hl : l.length ≤ 1000) : Calls Try.prog 44 #[v] W (ClonePost W l) := by
  obtain ⟨i0, hi0, hz0, hz1, hz2⟩ := info_parts infoM
  obtain ⟨ao, cap, rfl, hc⟩ := hR.val
  have hen := Lib.run_eql_slice_nil (P := Try.prog)
  cases ao with
  | none =>
    have hl0 : l = [] := by
      cases l with
      | nil => rfl
      | cons x l => obtain ⟨_, _, e, _⟩ := hc (by simp); cases e
    subst hl0
    clear hc
    have HR := Lib.hid hR; clear hR
    go_enter Try.func44, Try.ntmps44
    go_wp2_with fail
    go_ret
    exact ⟨_, rfl, ⟨none, 0, rfl, fun h => by simp at h⟩, Below.refl _ _⟩
  | some a =>
    have hown0 : (W.alloc (.cells #[] 48)).ownsRow W.heap.size 48 3 (.slice (some ⟨W.heap.size, 0, none⟩) 0 0) 0 [] := World.ownsRow_lit W #[] 0 (Nat.le_refl _) (by unfold maxLen; omega) rfl
    have HOwn := Lib.hid hown0; clear hown0
    by_cases h0 : l.length = 0
    · have hl0 : l = [] := List.eq_nil_of_length_eq_zero h0
      subst hl0
      clear hc hR
      go_enter Try.func44, Try.ntmps44
      go_wp2_with fail
      go_ret
      exact ⟨_, rfl, ⟨_, 0, rfl, fun h => by simp at h⟩, (Below.refl _ _).alloc (Nat.le_refl _) _⟩
    · obtain ⟨b, o, e, _⟩ := hc (by omega)
      cases e
      have hnews := (hR.below ((Below.refl _ _).alloc (Nat.le_refl _) (.cells #[] 48))).news
      have HNews := Lib.hid hnews; clear hnews hc hR
      go_enter Try.func44, Try.ntmps44
      go_wp2_with (at_builtin; refine wpList_append_lies _ rfl (.tmp 5) (.tmp 6) 50 rfl W.heap.size 48 i0 (.agg #[.int .i64 0, .string ⟨#[]⟩, .string ⟨#[]⟩]) 3 40 Try.underlying50 hi0 hz0 hz1 hz2 rfl (by decide) (.slice (some ⟨W.heap.size, 0, none⟩) 0 0) 0 [] rfl HOwn.out ⟨b, o, none⟩ l.length cap (mflat l) rfl (mflat_length l) HNews.out (mflat_one l) (by omega) (by unfold maxLen; omega) (by omega) (by simp) (W.heap.size + 1) (by simp) ?_; intro g2 cap2 w2 hown2 hgrow2 hat2 hlt2; have hb2 := ((Below.refl W.heap.size W).alloc (Nat.le_refl _) (.cells #[] 48)).grown hgrow2 (by simp) (fun k hk => by simp [Value.ownBlock] at hk; omega); rw [Nat.zero_add, List.nil_append] at hown2; have HR2 := Lib.hid (RowM.of_own hown2); have HB2 := Lib.hid hb2; clear hown2 hgrow2 hat2 hlt2 hb2)
      go_ret
      exact ⟨_, rfl, by simpa using HR2.out, HB2.out⟩
end Go.Proofs.Ytokcffkffcfolaa.Ma
namespace Go.Proofs.Ytokcffkffcfolaa.Ma
open Go Go.RowKit Go.Proofs.Ytokcffkffcfolaa.Rg

structure Lb where
  name : ByteArray
  value : ByteArray
/-- A row of labels. -/
structure RowL (W : World) (v : Value) (l : List Lb) : Prop where
  val : ∃ ao cap, v = .slice ao l.length cap ∧ (0 < l.length → ∃ b o, ao = some ⟨b, o, none⟩ ∧ ∀ (i : Nat) (x : Lb), l[i]? = some x →
    W.cell? ⟨b, o + i * 2, none⟩ = some (.string x.name) ∧ W.cell? ⟨b, o + i * 2 + 1, none⟩ = some (.string x.value))
theorem RowL.below {W W1 : World} {v : Value} {l : List Lb} (h : RowL W v l) (hb : Below W.heap.size W W1) : RowL W1 v l := by
  obtain ⟨ao, cap, hv, hc⟩ := h.val
  refine ⟨ao, cap, hv, fun h0 => ?_⟩
  obtain ⟨b, o, ha, hm⟩ := hc h0
  refine ⟨b, o, ha, fun i m hi => ?_⟩
  obtain ⟨h1, h2⟩ := hm i m hi
  exact ⟨by rw [hb.cell (World.block_lt_of_cell? W _ h1)]; exact h1, by rw [hb.cell (World.block_lt_of_cell? W _ h2)]; exact h2⟩
def getL (n : ByteArray) : List Lb → ByteArray
  | [] => ⟨#[]⟩
  | x :: l => if x.name = n then x.value else getL n l
theorem getL_drop {n : ByteArray} {l : List Lb} {k : Nat} {x : Lb} (h : l[k]? = some x) : getL n (l.drop k) = if x.name = n then x.value else getL n (l.drop (k + 1)) := by
  obtain ⟨hlt, rfl⟩ := List.getElem?_eq_some_iff.1 h
  rw [List.drop_eq_getElem_cons hlt, getL]
theorem bytes_ne {a b : ByteArray} (h : ¬ a = b) : (a.toList == b.toList) = false := by
  rw [beq_eq_false_iff_ne]
  intro h2
  rw [ByteArray.toList_eq, ByteArray.toList_eq] at h2
  apply h
  obtain ⟨⟨a⟩⟩ := a
  obtain ⟨⟨b⟩⟩ := b
  have h3 : a = b := h2
  rw [h3]
def GetPost (W : World) (n : ByteArray) (l : List Lb) (e : Ending) (W' : World) : Prop := e = .returned (.string (getL n l)) ∧ Below W.heap.size W W'
set_option maxRecDepth 100000 in
set_option maxHeartbeats 4000000 in
theorem get_calls (v : Value) (l : List Lb) (n : ByteArray) (W : World) (hR : RowL W v l) (hl : l.length ≤ 1000) : Calls Try.prog 46 #[v, .string n] W (GetPost W n l) := by
  obtain ⟨ao, cap, rfl, hc⟩ := hR.val
  have HR := Lib.hid hR; clear hR hc
  go_enter Try.func46, Try.ntmps46
  go_wp2_with fail
  go_loopw [9] (fun i wr => ∃ k : Nat, k ≤ l.length ∧ i = .int .i64 (k : Int) ∧ getL n (l.drop k) = getL n l ∧ RowL wr (.slice ao l.length cap) l ∧ Below W.heap.size W wr) (fun i _ => l.length - (intOf i).toNat)
  case atStart => exact ⟨0, Nat.zero_le _, rfl, rfl, HR.out, Below.refl _ _⟩
  case round =>
    obtain ⟨k, hk, rfl, hg, hR, hbel⟩ := hrel
    have HG := Lib.hid hg; clear hg
    have HBel := Lib.hid hbel; clear hbel
    by_cases hkl : k < l.length
    · obtain ⟨_, _, hv, hc⟩ := hR.val
      simp only [Value.slice.injEq, true_and] at hv
      obtain ⟨rfl, rfl⟩ := hv
      obtain ⟨b, o, rfl, hm⟩ := hc (by omega)
      obtain ⟨x, hxk⟩ : ∃ x, l[k]? = some x := ⟨_, List.getElem?_eq_getElem hkl⟩
      obtain ⟨c0, c1⟩ := hm k x hxk
      have hst := getL_drop (n := n) hxk
      clear hc hm
      have HRr := Lib.hid hR; clear hR
      have HXk := Lib.hid hxk; clear hxk
      obtain ⟨xn, xv⟩ := x
      dsimp only at *
      by_cases hxn : xn = n
      · subst hxn
        rw [if_pos rfl] at hst
        have hfin : getL xn l = xv := by rw [← HG.out, hst]
        have HF := Lib.hid hfin; clear hfin hst
        go_wp2_with fail
        go_ret
        exact ⟨by rw [HF.out]; rfl, HBel.out.alloc HBel.out.size _⟩
      · rw [if_neg hxn] at hst
        have hst' := hst.symm.trans HG.out
        have HSt := Lib.hid hst'; clear hst' hst
        have hb1 := bytes_ne hxn
        have HXn := Lib.hid hxn
        have hRa := HRr.out.below ((Below.refl _ _).alloc (Nat.le_refl _) (.cells #[.string xn, .string xv] 90))
        have HRa := Lib.hid hRa; clear hRa
        go_wp2_with fail
        go_roundw
        case rel => exact ⟨k + 1, by omega, by go_num, HSt.out, HRa.out, HBel.out.alloc HBel.out.size _⟩
        case measure => (simp [intOf] <;> omega)
    · have hfin : getL n l = ⟨#[]⟩ := by rw [← HG.out, List.drop_of_length_le (by omega)]; rfl
      have HF := Lib.hid hfin; clear hfin
      have HRr := Lib.hid hR; clear hR
      go_wp2_with fail
      go_ret
      exact ⟨by rw [HF.out]; rfl, HBel.out⟩
end Go.Proofs.Ytokcffkffcfolaa.Ma
namespace Go.Proofs.Ytokcffkffcfolaa.Ma
open Go Go.RowKit Go.Proofs.Ytokcffkffcfolaa.Rg

/-- How a pointer reads: by its block. -/
def ptrElem (v : Value) : Option (DataW Unit × List MemPlace) :=
  match v with
  | .pointer none => some (.nil, [])
  | .pointer (some ⟨p, 0, none⟩) => some (.lit (.int .i64 (p : Int)), [])
  | _ => none
theorem ptrElem_inv {v : Value} {p : Nat} {ps : List MemPlace} (h : ptrElem v = some (.lit (.int .i64 (p : Int)), ps)) : v = .pointer (some ⟨p, 0, none⟩) := by
  unfold ptrElem at h
  split at h
  · simp at h
  · simp at h
    obtain ⟨h1, _⟩ := h
    have h2 := Int.ofNat.inj h1
    subst h2
    rfl
  · cases h
def keyL (s : ByteArray) : Lit := .string s.data.toList
theorem keyL_inj {a b : ByteArray} (h : keyL a = keyL b) : a = b := by
  obtain ⟨⟨a⟩⟩ := a
  obtain ⟨⟨b⟩⟩ := b
  simp only [keyL, Lit.string.injEq] at h
  rw [h]
/-- The map of programs: of each pattern among l's. -/
def PMap (w : World) (b n : Nat) (l : List Mr) : Prop :=
  ∃ D : DataW Unit, w.ownsMap Try.prog 9 ptrElem b n D ∧ Maps.IsMap D ∧ ∀ m ∈ l, m.like = true → ∃ p : Nat, D.atKey (keyL m.value) .nil = .lit (.int .i64 (p : Int)) ∧ Made w p m.value
/-- A set of matchers. -/
def IsSet (w : World) (sp : Nat) (l : List Mr) : Prop := ∃ v b n, w.heap[sp]? = some (.cells #[v, .map (some b)] 95 (0, 0)) ∧ RowM w v l ∧ PMap w b n l
theorem ownsMap_below {w w1 : World} {b n : Nat} {D : DataW Unit} {R : Value → Option (DataW Unit × List MemPlace)} (h : w.ownsMap Try.prog 9 R b n D) (hb : Below w.heap.size w w1) : w1.ownsMap Try.prog 9 R b n D := by
  obtain ⟨es, clock, h1, h2⟩ := h
  exact ⟨es, clock, (hb.block b (blk_lt h1)).trans h1, h2⟩
theorem PMap.below {w w1 : World} {b n : Nat} {l : List Mr} (h : PMap w b n l) (hb : Below w.heap.size w w1) : PMap w1 b n l := by
  obtain ⟨D, h1, h2, h3⟩ := h
  refine ⟨D, ownsMap_below h1 hb, h2, fun m hm hl => ?_⟩
  obtain ⟨p, hp, hmd⟩ := h3 m hm hl
  exact ⟨p, hp, hmd.below hb⟩
theorem IsSet.below {w w1 : World} {sp : Nat} {l : List Mr} (h : IsSet w sp l) (hb : Below w.heap.size w w1) : IsSet w1 sp l := by
  obtain ⟨v, b, n, h1, h2, h3⟩ := h
  exact ⟨v, b, n, (hb.block sp (blk_lt h1)).trans h1, h2.below hb, h3.below hb⟩
/-! Behind a store into the map nothing else turns -/
theorem cell_no_map {w : World} {b : Nat} {es : Array MapEntry} {clock : Nat} (hb : w.heap[b]? = some (.map es clock)) {a : Addr} {v : Value} (h : w.cell? a = some v) : some a.block ≠ some b := by
  intro e
  cases e
  simp [World.cell?, hb] at h
theorem blk_no_map {w : World} {b k : Nat} {es : Array MapEntry} {clock : Nat} (hb : w.heap[b]? = some (.map es clock)) {cs : Array Value} {t : TypeId} {fr : Nat × Nat} (h : w.heap[k]? = some (.cells cs t fr)) : k ≠ b := by
  rintro rfl
  rw [h] at hb
  cases hb
section
variable {w w1 : World} {b : Nat} {es : Array MapEntry} {clock : Nat} (hb : w.heap[b]? = some (.map es clock)) (hg : w.grownBy w1 (some b))
include hb hg
theorem made_map {p : Nat} {s : ByteArray} (h : Made w p s) : Made w1 p s := by
  refine ⟨h.ok, ?_⟩
  obtain ⟨gg, cap, hp, hl, ho⟩ := h.prog
  refine ⟨gg, cap, (hg.block p (blk_lt hp) (by simp; exact blk_no_map hb hp)).trans hp, hl, ?_⟩
  rcases ho with hn | ⟨q, cap', cur, hv, hq, hgq, rest⟩
  · exact .inl hn
  · exact .inr ⟨q, cap', cur, hv, hq, (hg.block q (blk_lt hgq) (by simp; exact blk_no_map hb hgq)).trans hgq, rest⟩
theorem rowM_map {v : Value} {l : List Mr} (h : RowM w v l) : RowM w1 v l := by
  obtain ⟨ao, cap, hv, hc⟩ := h.val
  refine ⟨ao, cap, hv, fun h0 => ?_⟩
  obtain ⟨b', o, ha, hm⟩ := hc h0
  refine ⟨b', o, ha, fun i m hi => ?_⟩
  obtain ⟨h1, h2, h3⟩ := hm i m hi
  exact ⟨hg.cell h1 (cell_no_map hb h1), hg.cell h2 (cell_no_map hb h2), hg.cell h3 (cell_no_map hb h3)⟩
end
theorem PMap.nil (w : World) : PMap (w.alloc (.map #[] 0)) w.heap.size 0 [] := ⟨.map [], World.ownsMap_made w _ _ _, ⟨[], rfl⟩, fun m hm => by cases hm⟩
theorem PMap.skip {w : World} {b n : Nat} {l : List Mr} {m : Mr} (h : PMap w b n l) (hm : m.like = false) : PMap w b n (l ++ [m]) := by
  obtain ⟨D, h1, h2, h3⟩ := h
  refine ⟨D, h1, h2, fun x hx hl => ?_⟩
  rw [List.mem_append, List.mem_singleton] at hx
  rcases hx with hx | rfl
  · exact h3 x hx hl
  · rw [hm] at hl; cases hl
theorem PMap.blk {w : World} {b n : Nat} {l : List Mr} (h : PMap w b n l) : ∃ es clock, w.heap[b]? = some (.map es clock) := by
  obtain ⟨D, ⟨es, clock, h1, _⟩, _⟩ := h
  exact ⟨es, clock, h1⟩
/-- A pattern's program is put in. -/
theorem PMap.put {w : World} {b n : Nat} {l : List Mr} {m : Mr} (h : PMap w b n l) (hn : n < maxLen) (hs : m.value.size ≤ maxLen) {p : Nat} (hmd : Made w p m.value) :
    ∃ w', (Instr.mapUpdate 93 (.map (some b)) (.string m.value) (.pointer (some ⟨p, 0, none⟩))).run Try.prog w = .ok () w' ∧ PMap w' b (n + 1) (l ++ [m]) ∧ w.grownBy w' (some b) := by
  obtain ⟨es, clock, hb⟩ := h.blk
  obtain ⟨D, h1, h2, h3⟩ := h
  have hkey : keyOf Try.prog 9 (.string m.value) = some (keyL m.value) := Go.WideMaps.keyOf_string_mk Try.underlying9 hs
  obtain ⟨w', hrun, hown, hg⟩ := h1.update (Maps.string_keyed Try.underlying9) Try.underlying93 hn hkey (val := .pointer (some ⟨p, 0, none⟩)) (d := .lit (.int .i64 (p : Int))) (ps := []) rfl
  refine ⟨w', hrun, ⟨_, hown, hown.isMap, fun x hx hl => ?_⟩, hg⟩
  by_cases hk : keyL x.value = keyL m.value
  · have hxv := keyL_inj hk
    refine ⟨p, ?_, by rw [hxv]; exact made_map hb hg hmd⟩
    rw [hk]
    exact Maps.atKey_put_same h2 (by simp [WideAt.IsKeyLit, keyL]) _ _
  · rw [List.mem_append, List.mem_singleton] at hx
    rcases hx with hx | rfl
    · obtain ⟨q, hq, hqm⟩ := h3 x hx hl
      exact ⟨q, by rw [Maps.atKey_put_other hk]; exact hq, made_map hb hg hqm⟩
    · exact absurd rfl hk
/-- The look-up of a pattern's program. -/
theorem PMap.look {w : World} {b n : Nat} {l : List Mr} {m : Mr} (h : PMap w b n l) (hm : m ∈ l) (hl : m.like = true) (hs : m.value.size ≤ maxLen) :
    ∃ p : Nat, (∀ k, (Instr.lookup 93 (.map (some b)) (.string m.value) false).run Try.prog (w.drewN k) = .ok (.pointer (some ⟨p, 0, none⟩)) (w.drewN k)) ∧ Made w p m.value := by
  obtain ⟨D, h1, h2, h3⟩ := h
  obtain ⟨p, hp, hmd⟩ := h3 m hm hl
  refine ⟨p, fun k => ?_, hmd⟩
  have hkey : keyOf Try.prog 9 (.string m.value) = some (keyL m.value) := Go.WideMaps.keyOf_string_mk Try.underlying9 hs
  have h1' : (w.drewN k).ownsMap Try.prog 9 ptrElem b n D := h1
  obtain ⟨v, ps, hrun, hv⟩ := h1'.lookup (Maps.string_keyed Try.underlying9) Try.underlying93 (z := .pointer none) (by kernel_rfl) (zd := .nil) (zp := []) rfl hkey
  rw [hp] at hv
  rw [ptrElem_inv hv] at hrun
  exact hrun
end Go.Proofs.Ytokcffkffcfolaa.Ma
namespace Go.Proofs.Ytokcffkffcfolaa.Ma
open Go Go.RowKit Go.Proofs.Ytokcffkffcfolaa.Rg

theorem errL_all : ∀ {l : List Mr}, errL l = 0 → ∀ m ∈ l, err1 m = 0
  | [], _, m, h => by cases h
  | x :: l, h, m, hm => by
    rw [errL] at h
    by_cases hx : err1 x = 0
    · rw [if_pos hx] at h
      rcases List.mem_cons.1 hm with rfl | hm
      · exact hx
      · exact errL_all h m hm
    · rw [if_neg hx] at h; exact absurd h hx
theorem errM_all {l : List Mr} (h : errM l = 0) : l.length ≤ 32 ∧ ∀ m ∈ l, badM m = false ∧ (m.like = true → errOf m.value = 0) := by
  unfold errM at h
  by_cases h32 : 32 < l.length
  · rw [if_pos h32] at h; cases h
  · rw [if_neg h32] at h
    refine ⟨by omega, fun m hm => ?_⟩
    have h1 := errL_all h m hm
    unfold err1 at h1
    cases hb : badM m with
    | true => rw [hb] at h1; cases h1
    | false =>
      rw [hb] at h1
      refine ⟨rfl, fun hl => ?_⟩
      rw [hl] at h1
      exact h1
theorem badM_kind {m : Mr} (h : badM m = false) : 1 ≤ m.kind ∧ m.kind ≤ 4 ∧ nameB m.name = true := by
  simp [badM] at h
  exact ⟨by omega, by omega, h.1.2⟩
theorem wp_mapUpdate {o : Oper} {a : Act} {K : Act → World → Prop} {Q : Exit → Act → World → Prop} (m x v : Operand) (t : TypeId) (hop : o.op = Op.mapUpdate t m x v) (mv key val : Value)
    (hm : a.eval m = mv) (hx : a.eval x = key) (hv : a.eval v = val) {w w' : World} (hrun : (Instr.mapUpdate t mv key val).run Try.prog w = .ok () w') (hK : K (a.put o.dst undef) w') : o.wp Try.prog a w K Q := by
  unfold Oper.wp
  simp [execOp, hop, hm, hx, hv, hrun, Result.andThen]
  exact hK
theorem box_keep2 {w w1 : World} {g g2 i j : Nat} {v0 v1 : Value} (h : w.cell? ⟨g, i, none⟩ = some v0 ∧ w.cell? ⟨g2, j, none⟩ = some v1) (hb : Below w.heap.size w w1) : w1.cell? ⟨g, i, none⟩ = some v0 ∧ w1.cell? ⟨g2, j, none⟩ = some v1 :=
  ⟨(hb.cell (p := ⟨g, i, none⟩) (World.block_lt_of_cell? w _ h.1)).trans h.1, (hb.cell (p := ⟨g2, j, none⟩) (World.block_lt_of_cell? w _ h.2)).trans h.2⟩
def NewPost (W : World) (l : List Mr) (e : Ending) (W' : World) : Prop :=
  Below W.heap.size W W' ∧ (errM l = 0 → ∃ sp, e = .returned (.tuple #[.pointer (some ⟨sp, 0, none⟩), .int .i64 0]) ∧ IsSet W' sp l) ∧ (errM l ≠ 0 → e = .returned (.tuple #[.pointer none, .int .i64 (errM l)]))
set_option maxRecDepth 100000 in
set_option maxHeartbeats 8000000 in
theorem new_calls (v : Value) (l : List Mr) (W : World) (hR : RowM W v l) (hl : l.length ≤ 1000) (hsm : ∀ m ∈ l, m.name.size ≤ 300 ∧ m.value.size ≤ 300) : Calls Try.prog 27 #[v] W (NewPost W l) := by
  have hsm2 := hsm
  obtain ⟨ao, cap, rfl, hc⟩ := hR.val
  have HR := Lib.hid hR; clear hR hc
  have HSm := Lib.hid hsm2; clear hsm2
  by_cases h0 : errM l = 0
  · obtain ⟨h32, hall⟩ := errM_all h0
    have H0 := Lib.hid h0; clear h0
    have HAll := Lib.hid hall; clear hall
    have hmm := @run_makeMap Try.prog
    go_enter Try.func27, Try.ntmps27
    go_wp2_with fail
    (with_reducible refine (check_calls _ l _ HR.out hl HSm.out).mono ?_)
    rintro e W1 ⟨rfl, hb1⟩
    rw [H0.out]
    have HR1 := Lib.hid (HR.out.below hb1)
    have HB1 := Lib.hid hb1; clear hb1
    go_wp2_with fail
    (with_reducible refine (clone_calls _ l _ HR1.out hl).mono ?_)
    rintro e w2 ⟨v', rfl, hRc, hb2⟩
    obtain ⟨ac, capc, rfl, _⟩ := hRc.val
    have HR2 := Lib.hid (HR1.out.below hb2)
    have HB2 := Lib.hid (after HB1.out (Nat.le_refl _) hb2)
    have hba : Below w2.heap.size w2 ((w2.alloc (.map #[] 0)).alloc (.cells #[.slice ac l.length capc, .map (some w2.heap.size)] 95)) := ((Below.refl _ _).alloc (Nat.le_refl _) _).alloc (by simp) _
    have HRc := Lib.hid (hRc.below hba)
    have HR3 := Lib.hid (HR2.out.below hba)
    have HB3 := Lib.hid (after HB2.out (Nat.le_refl _) hba)
    have hbx : ((w2.alloc (.map #[] 0)).alloc (.cells #[.slice ac l.length capc, .map (some w2.heap.size)] 95)).heap[w2.heap.size + 1]? = some (.cells #[.slice ac l.length capc, .map (some w2.heap.size)] 95 (0, 0)) := blk_new2 w2 _ _
    have HBx := Lib.hid hbx; clear hbx
    have HP := Lib.hid ((PMap.nil w2).below ((Below.refl _ _).alloc (Nat.le_refl _) (.cells #[.slice ac l.length capc, .map (some w2.heap.size)] 95)))
    have hw2 := HB2.out.size
    clear hRc hb2 hba
    go_wp2_with fail
    clear hmm
    go_loopw [20] (fun i wr => ∃ k n : Nat, k ≤ l.length ∧ n ≤ k ∧ i = .int .i64 (k : Int) ∧ wr.heap[w2.heap.size + 1]? = some (.cells #[.slice ac l.length capc, .map (some w2.heap.size)] 95 (0, 0)) ∧ RowM wr (.slice ac l.length capc) l ∧ RowM wr (.slice ao l.length cap) l ∧ PMap wr w2.heap.size n (l.take k) ∧ Below W.heap.size W wr) (fun i _ => l.length - (intOf i).toNat)
    case atStart => exact ⟨0, 0, Nat.zero_le _, Nat.le_refl _, rfl, HBx.out, HRc.out, HR3.out, HP.out, HB3.out⟩
    case round =>
      obtain ⟨k, n, hk, hnk, rfl, hbx, hRc, hR, hP, hbel⟩ := hrel
      have HBel := Lib.hid hbel; clear hbel HBx HP HR3 HRc
      by_cases hkl : k < l.length
      · obtain ⟨_, _, hv, hc⟩ := hR.val
        simp only [Value.slice.injEq, true_and] at hv
        obtain ⟨rfl, rfl⟩ := hv
        obtain ⟨b, o, rfl, hm⟩ := hc (by omega)
        obtain ⟨m, hmk⟩ : ∃ m, l[k]? = some m := ⟨_, List.getElem?_eq_getElem hkl⟩
        obtain ⟨c0, c1, c2⟩ := hm k m hmk
        have hmem := List.mem_of_getElem? hmk
        obtain ⟨hs1, hs2⟩ := HSm.out m hmem
        obtain ⟨hbad, herr⟩ := HAll.out m hmem
        have htk : l.take (k + 1) = l.take k ++ [m] := by rw [List.take_add_one, hmk]; rfl
        clear hc hm
        have hba := (Below.refl wr.heap.size wr).alloc (Nat.le_refl _) (.cells #[.int .i64 m.kind, .string m.name, .string m.value] 48)
        have HRc := Lib.hid (hRc.below hba); clear hRc
        have HRr := Lib.hid (hR.below hba); clear hR
        have HP := Lib.hid (hP.below hba); clear hP
        have HBx := Lib.hid (blk_alloc hbx (.cells #[.int .i64 m.kind, .string m.name, .string m.value] 48)); clear hbx
        have HMk := Lib.hid hmk; clear hmk hba hmem
        have HTk := Lib.hid htk; clear htk
        by_cases hlk : m.kind = 3 ∨ m.kind = 4
        · have hlike : m.like = true := by simp [Mr.like, hlk]
          have HE0 := Lib.hid (herr hlike); clear herr hbad
          have hkd : (m.kind == 3) = true ∨ ((m.kind == 3) = false ∧ (m.kind == 4) = true) := by
            rcases hlk with h | h
            · left; rw [h]; rfl
            · right; rw [h]; exact ⟨rfl, rfl⟩
          have HLk := Lib.hid hlike; clear hlk hlike
          rcases hkd with t3 | ⟨t3, t4⟩
          all_goals
            go_wp2_with fail
            have hsb := blk_cell HBx.out 1
            have hvm := blk_cell (blk_new wr (.cells #[.int .i64 m.kind, .string m.name, .string m.value] 48)) 2
            refine wp_region_held_drew (S := fun w' => w'.cell? ⟨w2.heap.size + 1, 1, none⟩ = some (.map (some w2.heap.size)) ∧ w'.cell? ⟨wr.heap.size, 2, none⟩ = some (.string m.value)) (by kernel_rfl) ⟨hsb, hvm⟩ (fun hS => ?_)
            clear hsb hvm
            refine wpAnyH_take (i := 0) (v := .pointer (some ⟨w2.heap.size + 1, 0, none⟩)) rfl (by kernel_rfl) (by kernel_rfl) (by kernel_rfl) (fun _ _ _ h => h) (Or.inl ⟨by rfl, fun w hSw => by obtain ⟨hw0, hw1⟩ := hSw; clear hS; go_simp⟩) hS ?_
            simp only [Act.put, List.getElem_toArray, List.getElem_cons_zero, List.setIfInBounds_toArray, List.set_cons_zero, List.set_cons_succ]
            refine wpAnyH_take (i := 1) (v := .pointer (some ⟨w2.heap.size + 1, 0, none⟩)) rfl (by kernel_rfl) (by kernel_rfl) (by kernel_rfl) (fun _ _ _ h => h) (Or.inl ⟨by rfl, fun w hSw => by obtain ⟨hw0, hw1⟩ := hSw; clear hS; go_simp⟩) hS ?_
            simp only [Act.put, List.getElem_toArray, List.getElem_cons_zero, List.getElem_cons_succ, List.setIfInBounds_toArray, List.set_cons_zero, List.set_cons_succ]
            refine wpAnyH_take (i := 2) (v := .pointer (some ⟨w2.heap.size + 1, 1, none⟩)) rfl (by kernel_rfl) (by kernel_rfl) (by kernel_rfl) (fun _ _ _ h => h) (Or.inl ⟨by rfl, fun w hSw => by obtain ⟨hw0, hw1⟩ := hSw; clear hS; go_simp⟩) hS ?_
            simp only [Act.put, List.getElem_toArray, List.getElem_cons_zero, List.getElem_cons_succ, List.setIfInBounds_toArray, List.set_cons_zero, List.set_cons_succ]
            refine wpAnyH_take (i := 3) (v := .map (some w2.heap.size)) rfl (by kernel_rfl) (by kernel_rfl) (by kernel_rfl) (fun _ _ _ h => h) (Or.inl ⟨by rfl, fun w hSw => by obtain ⟨hw0, hw1⟩ := hSw; clear hS; go_simp⟩) hS ?_
            simp only [Act.put, List.getElem_toArray, List.getElem_cons_zero, List.getElem_cons_succ, List.setIfInBounds_toArray, List.set_cons_zero, List.set_cons_succ]
            refine wpAnyH_take (i := 4) (v := .pointer (some ⟨wr.heap.size, 2, none⟩)) rfl (by kernel_rfl) (by kernel_rfl) (by kernel_rfl) (fun _ _ _ h => h) (Or.inl ⟨by rfl, fun w hSw => by obtain ⟨hw0, hw1⟩ := hSw; clear hS; go_simp⟩) hS ?_
            simp only [Act.put, List.getElem_toArray, List.getElem_cons_zero, List.getElem_cons_succ, List.setIfInBounds_toArray, List.set_cons_zero, List.set_cons_succ]
            refine wpAnyH_take (i := 5) (v := .string m.value) rfl (by kernel_rfl) (by kernel_rfl) (by kernel_rfl) (fun _ _ _ h => h) (Or.inl ⟨by rfl, fun w hSw => by obtain ⟨hw0, hw1⟩ := hSw; clear hS; go_simp⟩) hS ?_
            simp only [Act.put, List.getElem_toArray, List.getElem_cons_zero, List.getElem_cons_succ, List.setIfInBounds_toArray, List.set_cons_zero, List.set_cons_succ]
            refine wpAnyH_take (i := 6) (v := .pointer (some ⟨wr.heap.size, 2, none⟩)) rfl (by kernel_rfl) (by kernel_rfl) (by kernel_rfl) (fun _ _ _ h => h) (Or.inl ⟨by rfl, fun w hSw => by obtain ⟨hw0, hw1⟩ := hSw; clear hS; go_simp⟩) hS ?_
            simp only [Act.put, List.getElem_toArray, List.getElem_cons_zero, List.getElem_cons_succ, List.setIfInBounds_toArray, List.set_cons_zero, List.set_cons_succ]
            refine wpAnyH_take (i := 7) (v := .string m.value) rfl (by kernel_rfl) (by kernel_rfl) (by kernel_rfl) (fun _ _ _ h => h) (Or.inl ⟨by rfl, fun w hSw => by obtain ⟨hw0, hw1⟩ := hSw; clear hS; go_simp⟩) hS ?_
            simp only [Act.put, List.getElem_toArray, List.getElem_cons_zero, List.getElem_cons_succ, List.setIfInBounds_toArray, List.set_cons_zero, List.set_cons_succ]
            refine wpAnyH_ready (rs := [8]) (by kernel_rfl) (by simp) (AllReadyH.cons rfl (fun K hK => ?_) AllReadyH.nil)
            rw [if_pos (by rfl)]
            go_simp
            go_at_call 12
            refine (comp_good HE0.out _ (by unfold maxLen; omega)).mono ?_
            rintro e w3 ⟨p, rfl, hmd, hb3⟩
            refine hK _ _ (box_keep2 hS hb3) (fun hS => ?_)
            clear hK K
            try simp only [Act.put, List.getElem_toArray, List.getElem_cons_zero, List.getElem_cons_succ, List.setIfInBounds_toArray, List.set_cons_zero, List.set_cons_succ]
            refine wpAnyH_take (i := 9) (v := .tuple #[.pointer (some ⟨p, 0, none⟩), .int .i64 0, .int .i64 0]) rfl (by kernel_rfl) (by kernel_rfl) (by kernel_rfl) (fun _ _ _ h => h) (Or.inl ⟨by rfl, fun w hSw => by obtain ⟨hw0, hw1⟩ := hSw; clear hS; go_simp⟩) hS ?_
            simp only [Act.put, List.getElem_toArray, List.getElem_cons_zero, List.getElem_cons_succ, List.setIfInBounds_toArray, List.set_cons_zero, List.set_cons_succ]
            refine wpAnyH_take (i := 10) (v := .pointer (some ⟨p, 0, none⟩)) rfl (by kernel_rfl) (by kernel_rfl) (by kernel_rfl) (fun _ _ _ h => h) (Or.inl ⟨by rfl, fun w hSw => by obtain ⟨hw0, hw1⟩ := hSw; clear hS; go_simp⟩) hS ?_
            simp only [Act.put, List.getElem_toArray, List.getElem_cons_zero, List.getElem_cons_succ, List.setIfInBounds_toArray, List.set_cons_zero, List.set_cons_succ]
            refine wpAnyH_take (i := 11) (v := .int .i64 0) rfl (by kernel_rfl) (by kernel_rfl) (by kernel_rfl) (fun _ _ _ h => h) (Or.inl ⟨by rfl, fun w hSw => by obtain ⟨hw0, hw1⟩ := hSw; clear hS; go_simp⟩) hS ?_
            simp only [Act.put, List.getElem_toArray, List.getElem_cons_zero, List.getElem_cons_succ, List.setIfInBounds_toArray, List.set_cons_zero, List.set_cons_succ]
            refine wpAnyH_take (i := 12) (v := .int .i64 0) rfl (by kernel_rfl) (by kernel_rfl) (by kernel_rfl) (fun _ _ _ h => h) (Or.inl ⟨by rfl, fun w hSw => by obtain ⟨hw0, hw1⟩ := hSw; clear hS; go_simp⟩) hS ?_
            simp only [Act.put, List.getElem_toArray, List.getElem_cons_zero, List.getElem_cons_succ, List.setIfInBounds_toArray, List.set_cons_zero, List.set_cons_succ]
            refine wpAnyH_ready (rs := [13]) (by kernel_rfl) (by simp) (AllReadyH.cons rfl (fun K hK => ?_) AllReadyH.nil)
            rw [if_pos (by rfl)]
            have hbd : Below wr.heap.size (wr.alloc (.cells #[.int .i64 m.kind, .string m.name, .string m.value] 48)) (wr.alloc (.cells #[.int .i64 m.kind, .string m.name, .string m.value] 48)).drew := (Below.refl _ _).drew
            have hP3 := HP.out.below ((Below.refl _ _).drew)
            have hP3 := hP3.below hb3
            have hRc3 := (HRc.out.below ((Below.refl _ _).drew)).below hb3
            have hR3 := (HRr.out.below ((Below.refl _ _).drew)).below hb3
            have hbx3 := (hb3.block _ (by have := blk_lt HBx.out; exact this)).trans HBx.out
            have hbl3 := after (HBel.out.alloc HBel.out.size (.cells #[.int .i64 m.kind, .string m.name, .string m.value] 48)).drew (Nat.le_refl _) hb3
            obtain ⟨es, clock, hmb⟩ := hP3.blk
            obtain ⟨w4, hrun, hP4, hg4⟩ := hP3.put (m := m) (by unfold maxLen; omega) (by unfold maxLen; omega) hmd
            refine wp_mapUpdate (.tmp 36) (.tmp 38) (.tmp 42) 93 rfl _ _ _ rfl rfl rfl hrun ?_
            have hS4 : w4.cell? ⟨w2.heap.size + 1, 1, none⟩ = some (.map (some w2.heap.size)) ∧ w4.cell? ⟨wr.heap.size, 2, none⟩ = some (.string m.value) := ⟨hg4.cell hS.1 (cell_no_map hmb hS.1), hg4.cell hS.2 (cell_no_map hmb hS.2)⟩
            refine hK _ _ hS4 (fun hS => ?_)
            clear hK K
            try simp only [Act.put, List.getElem_toArray, List.getElem_cons_zero, List.getElem_cons_succ]
            refine wpAnyH_done (by kernel_rfl) ?_ _
            have HP4 := Lib.hid hP4
            have HRc4 := Lib.hid (rowM_map hmb hg4 hRc3)
            have HR4 := Lib.hid (rowM_map hmb hg4 hR3)
            have HBx4 := Lib.hid ((hg4.block (w2.heap.size + 1) (blk_lt hbx3) (by simp)).trans hbx3)
            have HBl4 := Lib.hid (hbl3.grown hg4 hbl3.size (fun k hk => by cases hk; exact hw2))
            clear hS hS4 hP3 hRc3 hR3 hbx3 hbl3 hmb hrun hP4 hg4 hb3 hmd hbd
            go_wp2_with fail
            go_roundw
            case rel => exact ⟨k + 1, n + 1, by omega, by omega, by go_num, HBx4.out, HRc4.out, HR4.out, by rw [HTk.out]; exact HP4.out, HBl4.out⟩
            case measure => (simp [intOf] <;> omega)
        · have hlike : m.like = false := by simp [Mr.like]; omega
          have HLk := Lib.hid hlike; clear hlike
          have t3 : (m.kind == 3) = false := by rw [beq_eq_false_iff_ne]; omega
          have t4 : (m.kind == 4) = false := by rw [beq_eq_false_iff_ne]; omega
          clear hlk herr hbad
          go_wp2_with fail
          go_roundw
          case rel => exact ⟨k + 1, n, by omega, by omega, by go_num, HBx.out, HRc.out, HRr.out, by rw [HTk.out]; exact HP.out.skip HLk.out, HBel.out.alloc HBel.out.size _⟩
          case measure => (simp [intOf] <;> omega)
      · have hke : l.take k = l := List.take_of_length_le (by omega)
        have HFin := Lib.hid (show IsSet wr (w2.heap.size + 1) l from ⟨_, _, n, hbx, hRc, by rw [← hke]; exact hP⟩)
        clear hbx hRc hR hP hke
        go_wp2_with fail
        go_ret2
        exact ⟨HBel.out, fun _ => ⟨_, rfl, HFin.out⟩, fun h => absurd H0.out h⟩
  · have hne : ((errM l : Int) != 0) = true := by rw [bne_iff_ne]; omega
    have H0 := Lib.hid h0; clear h0
    go_enter Try.func27, Try.ntmps27
    go_wp2_with fail
    (with_reducible refine (check_calls _ l _ HR.out hl HSm.out).mono ?_)
    rintro e W1 ⟨rfl, hb1⟩
    have HB1 := Lib.hid hb1; clear hb1
    go_wp2_with fail
    go_ret2
    exact ⟨HB1.out, fun h => absurd h H0.out, fun _ => rfl⟩
end Go.Proofs.Ytokcffkffcfolaa.Ma
namespace Go.Proofs.Ytokcffkffcfolaa.Ma
open Go Go.RowKit Go.Proofs.Ytokcffkffcfolaa.Rg

/-- The map b has the program p of m's pattern. -/
def LookAt (w : World) (b : Nat) (m : Mr) (p : Nat) : Prop := ∃ (D : DataW Unit) (n : Nat), w.ownsMap Try.prog 9 ptrElem b n D ∧ D.atKey (keyL m.value) .nil = .lit (.int .i64 (p : Int)) ∧ Made w p m.value
theorem PMap.at {w : World} {b n : Nat} {l : List Mr} {m : Mr} (h : PMap w b n l) (hm : m ∈ l) (hl : m.like = true) : ∃ p, LookAt w b m p := by
  obtain ⟨D, h1, h2, h3⟩ := h
  obtain ⟨p, hp, hmd⟩ := h3 m hm hl
  exact ⟨p, D, n, h1, hp, hmd⟩
theorem LookAt.below {w w1 : World} {b p : Nat} {m : Mr} (h : LookAt w b m p) (hb : Below w.heap.size w w1) : LookAt w1 b m p := by
  obtain ⟨D, n, h1, h2, h3⟩ := h
  exact ⟨D, n, ownsMap_below h1 hb, h2, h3.below hb⟩
theorem LookAt.made {w : World} {b p : Nat} {m : Mr} (h : LookAt w b m p) : Made w p m.value := by obtain ⟨D, n, h1, h2, h3⟩ := h; exact h3
theorem LookAt.run {w : World} {b p : Nat} {m : Mr} (h : LookAt w b m p) (hs : m.value.size ≤ maxLen) : (Instr.lookup 93 (.map (some b)) (.string m.value) false).run Try.prog w = .ok (.pointer (some ⟨p, 0, none⟩)) w := by
  obtain ⟨D, n, h1, hp, _⟩ := h
  have hkey : keyOf Try.prog 9 (.string m.value) = some (keyL m.value) := Go.WideMaps.keyOf_string_mk Try.underlying9 hs
  obtain ⟨v, ps, hrun, hv⟩ := h1.lookup (Maps.string_keyed Try.underlying9) Try.underlying93 (z := .pointer none) (by kernel_rfl) (zd := .nil) (zp := []) rfl hkey
  rw [hp] at hv
  rw [ptrElem_inv hv] at hrun
  exact hrun
def holdsB (m : Mr) (v : ByteArray) : Bool := if m.kind = 1 then decide (v = m.value) else if m.kind = 2 then !decide (v = m.value) else if m.kind = 3 then matches_ m.value v else !matches_ m.value v
def HoldsPost (W : World) (m : Mr) (v : ByteArray) (e : Ending) (W' : World) : Prop := e = .returned (.bool (holdsB m v)) ∧ Below W.heap.size W W'
theorem box_keep3 {w w1 : World} {g g2 i j b p : Nat} {v0 v1 : Value} {m : Mr} (h : w.cell? ⟨g, i, none⟩ = some v0 ∧ w.cell? ⟨g2, j, none⟩ = some v1 ∧ LookAt w b m p) (hb : Below w.heap.size w w1) : w1.cell? ⟨g, i, none⟩ = some v0 ∧ w1.cell? ⟨g2, j, none⟩ = some v1 ∧ LookAt w1 b m p :=
  ⟨(box_keep2 ⟨h.1, h.2.1⟩ hb).1, (box_keep2 ⟨h.1, h.2.1⟩ hb).2, h.2.2.below hb⟩
set_option linter.unusedSimpArgs false in
set_option maxRecDepth 100000 in
set_option maxHeartbeats 8000000 in
theorem holds_calls (sp : Nat) (l : List Mr) (m : Mr) (v : ByteArray) (W : World) (hS : IsSet W sp l) (hm : m ∈ l) (hk1 : 1 ≤ m.kind) (hk4 : m.kind ≤ 4) (hs : m.value.size ≤ 300) (hv : v.size ≤ 100000) :
    Calls Try.prog 45 #[.pointer (some ⟨sp, 0, none⟩), .agg #[.int .i64 m.kind, .string m.name, .string m.value], .string v] W (HoldsPost W m v) := by
  have hba := (Below.refl W.heap.size W).alloc (Nat.le_refl _) (.cells #[.int .i64 m.kind, .string m.name, .string m.value] 48)
  have HBa := Lib.hid hba
  by_cases h1 : m.kind = 1
  · have hf : holdsB m v = decide (v = m.value) := by rw [holdsB, if_pos h1]
    have HF := Lib.hid hf; clear hf hba
    obtain ⟨k, nm, vl⟩ := m
    dsimp only at *
    subst h1
    clear hm hS
    by_cases he : v = vl
    · subst he
      go_enter Try.func45, Try.ntmps45
      go_wp2_with fail
      go_ret
      exact ⟨by rw [HF.out]; simp, HBa.out⟩
    · have hne := bytes_ne he
      have HE := Lib.hid he
      go_enter Try.func45, Try.ntmps45
      go_wp2_with fail
      go_ret
      exact ⟨by rw [HF.out]; simp [HE.out], HBa.out⟩
  by_cases h2 : m.kind = 2
  · have hf : holdsB m v = !decide (v = m.value) := by rw [holdsB, if_neg h1, if_pos h2]
    have HF := Lib.hid hf; clear hf hba
    obtain ⟨k, nm, vl⟩ := m
    dsimp only at *
    subst h2
    clear hm hS h1
    by_cases he : v = vl
    · subst he
      go_enter Try.func45, Try.ntmps45
      go_wp2_with fail
      go_ret
      exact ⟨by rw [HF.out]; simp, HBa.out⟩
    · have hne := bytes_ne he
      have HE := Lib.hid he
      go_enter Try.func45, Try.ntmps45
      go_wp2_with fail
      go_ret
      exact ⟨by rw [HF.out]; simp [HE.out], HBa.out⟩
  have hlike : m.like = true := by simp [Mr.like]; omega
  obtain ⟨vs, b, n, hbx, hRs, hP⟩ := hS
  obtain ⟨p, hL⟩ := hP.at hm hlike
  have hc1 := blk_cell (blk_alloc hbx (.cells #[.int .i64 m.kind, .string m.name, .string m.value] 48)) 1
  have hL2 := hL.below ((Below.refl _ _).alloc (Nat.le_refl _) (.cells #[.int .i64 m.kind, .string m.name, .string m.value] 48))
  have hvm := blk_cell (blk_new W (.cells #[.int .i64 m.kind, .string m.name, .string m.value] 48)) 2
  have hvs : m.value.size ≤ maxLen := by unfold maxLen; omega
  have HVs := Lib.hid hvs
  obtain ⟨x, hx⟩ : ∃ x, matches_ m.value v = x := ⟨_, rfl⟩
  have HX := Lib.hid hx
  have HL := Lib.hid (hL2.below (Below.refl _ _).drew)
  have HC1 := Lib.hid hc1
  have HVm := Lib.hid hvm
  clear hP hRs hbx hm hL hL2 hc1 hvm hvs hba hlike
  by_cases h3 : m.kind = 3
  · have hf : holdsB m v = x := by rw [holdsB, if_neg h1, if_neg h2, if_pos h3, hx]
    have HF := Lib.hid hf; clear hf hx h1 h2
    have t1 : (m.kind == 1) = false := by rw [h3]; rfl
    have t2 : (m.kind == 2) = false := by rw [h3]; rfl
    have t3 : (m.kind == 3) = true := by rw [h3]; rfl
    clear h3
    go_enter Try.func45, Try.ntmps45
    go_wp2_with fail
    refine wp_region_held_drew (S := fun w' => w'.cell? ⟨sp, 1, none⟩ = some (.map (some b)) ∧ w'.cell? ⟨W.heap.size, 2, none⟩ = some (.string m.value) ∧ LookAt w' b m p) (by kernel_rfl) ⟨HC1.out, HVm.out, HL.out⟩ (fun hS => ?_)
    refine wpAnyH_take (i := 0) (v := .pointer (some ⟨sp, 0, none⟩)) rfl (by kernel_rfl) (by kernel_rfl) (by kernel_rfl) (fun _ _ _ h => h) (Or.inl ⟨by rfl, fun w hSw => by obtain ⟨hw0, hw1, hw2⟩ := hSw; clear hS hw2; go_simp⟩) hS ?_
    try simp only [Act.put, List.getElem_toArray, List.getElem_cons_zero, List.getElem_cons_succ, List.setIfInBounds_toArray, List.set_cons_zero, List.set_cons_succ]
    refine wpAnyH_take (i := 1) (v := .pointer (some ⟨sp, 0, none⟩)) rfl (by kernel_rfl) (by kernel_rfl) (by kernel_rfl) (fun _ _ _ h => h) (Or.inl ⟨by rfl, fun w hSw => by obtain ⟨hw0, hw1, hw2⟩ := hSw; clear hS hw2; go_simp⟩) hS ?_
    try simp only [Act.put, List.getElem_toArray, List.getElem_cons_zero, List.getElem_cons_succ, List.setIfInBounds_toArray, List.set_cons_zero, List.set_cons_succ]
    refine wpAnyH_take (i := 2) (v := .pointer (some ⟨sp, 1, none⟩)) rfl (by kernel_rfl) (by kernel_rfl) (by kernel_rfl) (fun _ _ _ h => h) (Or.inl ⟨by rfl, fun w hSw => by obtain ⟨hw0, hw1, hw2⟩ := hSw; clear hS hw2; go_simp⟩) hS ?_
    try simp only [Act.put, List.getElem_toArray, List.getElem_cons_zero, List.getElem_cons_succ, List.setIfInBounds_toArray, List.set_cons_zero, List.set_cons_succ]
    refine wpAnyH_take (i := 3) (v := .map (some b)) rfl (by kernel_rfl) (by kernel_rfl) (by kernel_rfl) (fun _ _ _ h => h) (Or.inl ⟨by rfl, fun w hSw => by obtain ⟨hw0, hw1, hw2⟩ := hSw; clear hS hw2; go_simp⟩) hS ?_
    try simp only [Act.put, List.getElem_toArray, List.getElem_cons_zero, List.getElem_cons_succ, List.setIfInBounds_toArray, List.set_cons_zero, List.set_cons_succ]
    refine wpAnyH_take (i := 4) (v := .pointer (some ⟨W.heap.size, 2, none⟩)) rfl (by kernel_rfl) (by kernel_rfl) (by kernel_rfl) (fun _ _ _ h => h) (Or.inl ⟨by rfl, fun w hSw => by obtain ⟨hw0, hw1, hw2⟩ := hSw; clear hS hw2; go_simp⟩) hS ?_
    try simp only [Act.put, List.getElem_toArray, List.getElem_cons_zero, List.getElem_cons_succ, List.setIfInBounds_toArray, List.set_cons_zero, List.set_cons_succ]
    refine wpAnyH_take (i := 5) (v := .string m.value) rfl (by kernel_rfl) (by kernel_rfl) (by kernel_rfl) (fun _ _ _ h => h) (Or.inl ⟨by rfl, fun w hSw => by obtain ⟨hw0, hw1, hw2⟩ := hSw; clear hS hw2; go_simp⟩) hS ?_
    try simp only [Act.put, List.getElem_toArray, List.getElem_cons_zero, List.getElem_cons_succ, List.setIfInBounds_toArray, List.set_cons_zero, List.set_cons_succ]
    refine wpAnyH_take (i := 6) (v := .pointer (some ⟨p, 0, none⟩)) rfl (by kernel_rfl) (by kernel_rfl) (by kernel_rfl) (fun _ _ _ h => h) (Or.inl ⟨by rfl, fun w hSw => by obtain ⟨hw0, hw1, hw2⟩ := hSw; have hrun := hw2.run HVs.out; clear hS hw0 hw1 hw2; go_simp⟩) hS ?_
    try simp only [Act.put, List.getElem_toArray, List.getElem_cons_zero, List.getElem_cons_succ, List.setIfInBounds_toArray, List.set_cons_zero, List.set_cons_succ]
    refine wpAnyH_take (i := 7) (v := .string v) rfl (by kernel_rfl) (by kernel_rfl) (by kernel_rfl) (fun _ _ _ h => h) (Or.inl ⟨by rfl, fun w hSw => by obtain ⟨hw0, hw1, hw2⟩ := hSw; clear hS hw2; go_simp⟩) hS ?_
    try simp only [Act.put, List.getElem_toArray, List.getElem_cons_zero, List.getElem_cons_succ, List.setIfInBounds_toArray, List.set_cons_zero, List.set_cons_succ]
    refine wpAnyH_ready (rs := [8]) (by kernel_rfl) (by simp) (AllReadyH.cons rfl (fun K hK => ?_) AllReadyH.nil)
    rw [if_pos (by rfl)]
    go_simp
    go_at_call 13
    refine (hS.2.2.made.match_calls HX.out (by omega)).mono ?_
    rintro e w3 ⟨rfl, hb3⟩
    refine hK _ _ (box_keep3 hS hb3) (fun hS => ?_)
    clear hK K
    try simp only [Act.put, List.getElem_toArray, List.getElem_cons_zero, List.getElem_cons_succ, List.setIfInBounds_toArray, List.set_cons_zero, List.set_cons_succ]
    refine wpAnyH_take (i := 9) (v := .bool x) rfl (by kernel_rfl) (by kernel_rfl) (by kernel_rfl) (fun _ _ _ h => h) (Or.inl ⟨by rfl, fun w hSw => by obtain ⟨hw0, hw1, hw2⟩ := hSw; clear hS hw2; go_simp⟩) hS ?_
    try simp only [Act.put, List.getElem_toArray, List.getElem_cons_zero, List.getElem_cons_succ, List.setIfInBounds_toArray, List.set_cons_zero, List.set_cons_succ]
    refine wpAnyH_done (by kernel_rfl) ?_ _
    clear hS
    go_wp2_with fail
    go_ret
    exact ⟨by rw [HF.out]; rfl, after HBa.out.drew (Nat.le_refl _) hb3⟩
  · have hf : holdsB m v = !x := by rw [holdsB, if_neg h1, if_neg h2, if_neg h3, hx]
    have HF := Lib.hid hf; clear hf hx
    have t1 : (m.kind == 1) = false := by rw [beq_eq_false_iff_ne]; omega
    have t2 : (m.kind == 2) = false := by rw [beq_eq_false_iff_ne]; omega
    have t3 : (m.kind == 3) = false := by rw [beq_eq_false_iff_ne]; omega
    clear h3 h1 h2
    go_enter Try.func45, Try.ntmps45
    go_wp2_with fail
    refine wp_region_held_drew (S := fun w' => w'.cell? ⟨sp, 1, none⟩ = some (.map (some b)) ∧ w'.cell? ⟨W.heap.size, 2, none⟩ = some (.string m.value) ∧ LookAt w' b m p) (by kernel_rfl) ⟨HC1.out, HVm.out, HL.out⟩ (fun hS => ?_)
    refine wpAnyH_take (i := 0) (v := .pointer (some ⟨sp, 0, none⟩)) rfl (by kernel_rfl) (by kernel_rfl) (by kernel_rfl) (fun _ _ _ h => h) (Or.inl ⟨by rfl, fun w hSw => by obtain ⟨hw0, hw1, hw2⟩ := hSw; clear hS hw2; go_simp⟩) hS ?_
    try simp only [Act.put, List.getElem_toArray, List.getElem_cons_zero, List.getElem_cons_succ, List.setIfInBounds_toArray, List.set_cons_zero, List.set_cons_succ]
    refine wpAnyH_take (i := 1) (v := .pointer (some ⟨sp, 0, none⟩)) rfl (by kernel_rfl) (by kernel_rfl) (by kernel_rfl) (fun _ _ _ h => h) (Or.inl ⟨by rfl, fun w hSw => by obtain ⟨hw0, hw1, hw2⟩ := hSw; clear hS hw2; go_simp⟩) hS ?_
    try simp only [Act.put, List.getElem_toArray, List.getElem_cons_zero, List.getElem_cons_succ, List.setIfInBounds_toArray, List.set_cons_zero, List.set_cons_succ]
    refine wpAnyH_take (i := 2) (v := .pointer (some ⟨sp, 1, none⟩)) rfl (by kernel_rfl) (by kernel_rfl) (by kernel_rfl) (fun _ _ _ h => h) (Or.inl ⟨by rfl, fun w hSw => by obtain ⟨hw0, hw1, hw2⟩ := hSw; clear hS hw2; go_simp⟩) hS ?_
    try simp only [Act.put, List.getElem_toArray, List.getElem_cons_zero, List.getElem_cons_succ, List.setIfInBounds_toArray, List.set_cons_zero, List.set_cons_succ]
    refine wpAnyH_take (i := 3) (v := .map (some b)) rfl (by kernel_rfl) (by kernel_rfl) (by kernel_rfl) (fun _ _ _ h => h) (Or.inl ⟨by rfl, fun w hSw => by obtain ⟨hw0, hw1, hw2⟩ := hSw; clear hS hw2; go_simp⟩) hS ?_
    try simp only [Act.put, List.getElem_toArray, List.getElem_cons_zero, List.getElem_cons_succ, List.setIfInBounds_toArray, List.set_cons_zero, List.set_cons_succ]
    refine wpAnyH_take (i := 4) (v := .pointer (some ⟨W.heap.size, 2, none⟩)) rfl (by kernel_rfl) (by kernel_rfl) (by kernel_rfl) (fun _ _ _ h => h) (Or.inl ⟨by rfl, fun w hSw => by obtain ⟨hw0, hw1, hw2⟩ := hSw; clear hS hw2; go_simp⟩) hS ?_
    try simp only [Act.put, List.getElem_toArray, List.getElem_cons_zero, List.getElem_cons_succ, List.setIfInBounds_toArray, List.set_cons_zero, List.set_cons_succ]
    refine wpAnyH_take (i := 5) (v := .string m.value) rfl (by kernel_rfl) (by kernel_rfl) (by kernel_rfl) (fun _ _ _ h => h) (Or.inl ⟨by rfl, fun w hSw => by obtain ⟨hw0, hw1, hw2⟩ := hSw; clear hS hw2; go_simp⟩) hS ?_
    try simp only [Act.put, List.getElem_toArray, List.getElem_cons_zero, List.getElem_cons_succ, List.setIfInBounds_toArray, List.set_cons_zero, List.set_cons_succ]
    refine wpAnyH_take (i := 6) (v := .pointer (some ⟨p, 0, none⟩)) rfl (by kernel_rfl) (by kernel_rfl) (by kernel_rfl) (fun _ _ _ h => h) (Or.inl ⟨by rfl, fun w hSw => by obtain ⟨hw0, hw1, hw2⟩ := hSw; have hrun := hw2.run HVs.out; clear hS hw0 hw1 hw2; go_simp⟩) hS ?_
    try simp only [Act.put, List.getElem_toArray, List.getElem_cons_zero, List.getElem_cons_succ, List.setIfInBounds_toArray, List.set_cons_zero, List.set_cons_succ]
    refine wpAnyH_take (i := 7) (v := .string v) rfl (by kernel_rfl) (by kernel_rfl) (by kernel_rfl) (fun _ _ _ h => h) (Or.inl ⟨by rfl, fun w hSw => by obtain ⟨hw0, hw1, hw2⟩ := hSw; clear hS hw2; go_simp⟩) hS ?_
    try simp only [Act.put, List.getElem_toArray, List.getElem_cons_zero, List.getElem_cons_succ, List.setIfInBounds_toArray, List.set_cons_zero, List.set_cons_succ]
    refine wpAnyH_ready (rs := [8]) (by kernel_rfl) (by simp) (AllReadyH.cons rfl (fun K hK => ?_) AllReadyH.nil)
    rw [if_pos (by rfl)]
    go_simp
    go_at_call 13
    refine (hS.2.2.made.match_calls HX.out (by omega)).mono ?_
    rintro e w3 ⟨rfl, hb3⟩
    refine hK _ _ (box_keep3 hS hb3) (fun hS => ?_)
    clear hK K
    try simp only [Act.put, List.getElem_toArray, List.getElem_cons_zero, List.getElem_cons_succ, List.setIfInBounds_toArray, List.set_cons_zero, List.set_cons_succ]
    refine wpAnyH_take (i := 9) (v := .bool (!x)) rfl (by kernel_rfl) (by kernel_rfl) (by kernel_rfl) (fun _ _ _ h => h) (Or.inl ⟨by rfl, fun w hSw => by obtain ⟨hw0, hw1, hw2⟩ := hSw; clear hS hw2; go_simp⟩) hS ?_
    try simp only [Act.put, List.getElem_toArray, List.getElem_cons_zero, List.getElem_cons_succ, List.setIfInBounds_toArray, List.set_cons_zero, List.set_cons_succ]
    refine wpAnyH_take (i := 10) (v := .bool (!x)) rfl (by kernel_rfl) (by kernel_rfl) (by kernel_rfl) (fun _ _ _ h => h) (Or.inl ⟨by rfl, fun w hSw => by obtain ⟨hw0, hw1, hw2⟩ := hSw; clear hS hw2; go_simp⟩) hS ?_
    try simp only [Act.put, List.getElem_toArray, List.getElem_cons_zero, List.getElem_cons_succ, List.setIfInBounds_toArray, List.set_cons_zero, List.set_cons_succ]
    refine wpAnyH_done (by kernel_rfl) ?_ _
    clear hS
    go_wp2_with fail
    go_ret
    exact ⟨by rw [HF.out]; rfl, after HBa.out.drew (Nat.le_refl _) hb3⟩
end Go.Proofs.Ytokcffkffcfolaa.Ma
namespace Go.Proofs.Ytokcffkffcfolaa.Ma
open Go Go.RowKit Go.Proofs.Ytokcffkffcfolaa.Rg

theorem getL_size {n : ByteArray} {N : Nat} : ∀ {l : List Lb}, (∀ x ∈ l, x.value.size ≤ N) → (getL n l).size ≤ N
  | [], _ => Nat.zero_le _
  | x :: l, h => by
    rw [getL]
    split
    · exact h x (by simp)
    · exact getL_size fun y hy => h y (by simp [hy])
/-- Are labels meant? -/
def meantB (l : List Mr) (s : List Lb) : Bool := l.all fun m => holdsB m (getL m.name s)
theorem all_takeM {l : List Mr} {k : Nat} {m : Mr} (h : l[k]? = some m) (p : Mr → Bool) : (l.take (k + 1)).all p = ((l.take k).all p && p m) := by
  rw [List.take_add_one, h, List.all_append]; simp
theorem all_falseM {l : List Mr} {m : Mr} (h : m ∈ l) (p : Mr → Bool) (hp : p m = false) : l.all p = false := by
  rw [List.all_eq_false]; exact ⟨m, h, by rw [hp]; simp⟩
/-- What a round of Match reads. -/
structure MatS (w : World) (sp : Nat) (l : List Mr) (v : Value) (s : List Lb) : Prop where
  set : IsSet w sp l
  row : RowL w v s
theorem MatS.below {w w1 : World} {sp : Nat} {l : List Mr} {v : Value} {s : List Lb} (h : MatS w sp l v s) (hb : Below w.heap.size w w1) : MatS w1 sp l v s := ⟨h.set.below hb, h.row.below hb⟩
theorem mat_keep {w w1 : World} {g sp : Nat} {v0 v1 v2 v : Value} {l : List Mr} {s : List Lb} (h : w.cell? ⟨g, 0, none⟩ = some v0 ∧ w.cell? ⟨g, 1, none⟩ = some v1 ∧ w.cell? ⟨g, 2, none⟩ = some v2 ∧ MatS w sp l v s) (hb : Below w.heap.size w w1) :
    w1.cell? ⟨g, 0, none⟩ = some v0 ∧ w1.cell? ⟨g, 1, none⟩ = some v1 ∧ w1.cell? ⟨g, 2, none⟩ = some v2 ∧ MatS w1 sp l v s := by
  have hl := World.block_lt_of_cell? w _ h.1
  exact ⟨(hb.cell (p := ⟨g, 0, none⟩) hl).trans h.1, (hb.cell (p := ⟨g, 1, none⟩) hl).trans h.2.1, (hb.cell (p := ⟨g, 2, none⟩) hl).trans h.2.2.1, h.2.2.2.below hb⟩
def MeantPost (W : World) (l : List Mr) (s : List Lb) (e : Ending) (W' : World) : Prop := e = .returned (.bool (meantB l s)) ∧ Below W.heap.size W W'
set_option linter.unusedSimpArgs false in
set_option maxRecDepth 100000 in
set_option maxHeartbeats 8000000 in
theorem meant_calls (sp : Nat) (l : List Mr) (v : Value) (s : List Lb) (W : World) (hS : IsSet W sp l) (hR : RowL W v s) (hl : l.length ≤ 1000) (hsl : s.length ≤ 1000) (hk : ∀ m ∈ l, 1 ≤ m.kind ∧ m.kind ≤ 4 ∧ m.value.size ≤ 300) (hsv : ∀ x ∈ s, x.value.size ≤ 100000) :
    Calls Try.prog 28 #[.pointer (some ⟨sp, 0, none⟩), v] W (MeantPost W l s) := by
  have hms : MatS W sp l v s := ⟨hS, hR⟩
  obtain ⟨vs, b, n, hbx, hRs, hP⟩ := hS
  obtain ⟨ac, capc, rfl, _⟩ := hRs.val
  obtain ⟨ao, cap, rfl, _⟩ := hR.val
  have hc0 := blk_cell hbx 0
  have HRs := Lib.hid hRs
  have HMs := Lib.hid hms
  have HK := Lib.hid hk
  have HSv := Lib.hid (fun n : ByteArray => getL_size (n := n) hsv)
  clear hms hRs hbx hP hR hk hsv
  go_enter Try.func28, Try.ntmps28
  go_wp2_with fail
  clear hc0
  go_loopw [12] (fun i wr => ∃ k : Nat, k ≤ l.length ∧ i = .int .i64 (k : Int) ∧ (l.take k).all (fun m => holdsB m (getL m.name s)) = true ∧ MatS wr sp l (.slice ao s.length cap) s ∧ RowM wr (.slice ac l.length capc) l ∧ Below W.heap.size W wr) (fun i _ => l.length - (intOf i).toNat)
  case atStart => exact ⟨0, Nat.zero_le _, rfl, rfl, HMs.out, HRs.out, Below.refl _ _⟩
  case round =>
    obtain ⟨k, hk, rfl, hall, hms, hRm, hbel⟩ := hrel
    have HAll := Lib.hid hall; clear hall
    have HBel := Lib.hid hbel; clear hbel
    by_cases hkl : k < l.length
    · obtain ⟨_, _, hv, hc⟩ := hRm.val
      simp only [Value.slice.injEq, true_and] at hv
      obtain ⟨rfl, rfl⟩ := hv
      obtain ⟨b', o, rfl, hm⟩ := hc (by omega)
      obtain ⟨m, hmk⟩ : ∃ m, l[k]? = some m := ⟨_, List.getElem?_eq_getElem hkl⟩
      obtain ⟨c0, c1, c2⟩ := hm k m hmk
      have hmem := List.mem_of_getElem? hmk
      obtain ⟨hk1, hk4, hs3⟩ := HK.out m hmem
      have hgv := HSv.out m.name
      have hat := all_takeM hmk (fun m => holdsB m (getL m.name s))
      have hba := (Below.refl wr.heap.size wr).alloc (Nat.le_refl _) (.cells #[.int .i64 m.kind, .string m.name, .string m.value] 48)
      have hnew := blk_new wr (.cells #[.int .i64 m.kind, .string m.name, .string m.value] 48)
      have HMa := Lib.hid ((hms.below hba).below (Below.refl _ _).drew)
      have HRa := Lib.hid (hRm.below hba)
      have HN0 := Lib.hid (blk_cell hnew 0)
      have HN1 := Lib.hid (blk_cell hnew 1)
      have HN2 := Lib.hid (blk_cell hnew 2)
      have HMem := Lib.hid hmem
      obtain ⟨y, hy⟩ : ∃ y, holdsB m (getL m.name s) = y := ⟨_, rfl⟩
      have HY := Lib.hid hy
      clear hc hm hba hnew hms hRm hmk hmem
      go_wp2_with fail
      refine wp_region_held_drew (S := fun w' => w'.cell? ⟨wr.heap.size, 0, none⟩ = some (.int .i64 m.kind) ∧ w'.cell? ⟨wr.heap.size, 1, none⟩ = some (.string m.name) ∧ w'.cell? ⟨wr.heap.size, 2, none⟩ = some (.string m.value) ∧ MatS w' sp l (.slice ao s.length cap) s) (by kernel_rfl) ⟨HN0.out, HN1.out, HN2.out, HMa.out⟩ (fun hS => ?_)
      have HAt := Lib.hid hat; clear hat hy
      refine wpAnyH_take (i := 0) (v := .pointer (some ⟨sp, 0, none⟩)) rfl (by kernel_rfl) (by kernel_rfl) (by kernel_rfl) (fun _ _ _ h => h) (Or.inl ⟨by rfl, fun w hSw => by obtain ⟨hw0, hw1, hw2, hw3⟩ := hSw; clear hS hw3; go_simp⟩) hS ?_
      try simp only [Act.put, List.getElem_toArray, List.getElem_cons_zero, List.getElem_cons_succ, List.setIfInBounds_toArray, List.set_cons_zero, List.set_cons_succ]
      refine wpAnyH_take (i := 1) (v := .agg #[.int .i64 m.kind, .string m.name, .string m.value]) rfl (by kernel_rfl) (by kernel_rfl) (by kernel_rfl) (fun _ _ _ h => h) (Or.inl ⟨by rfl, fun w hSw => by obtain ⟨hw0, hw1, hw2, hw3⟩ := hSw; clear hS hw3; go_simp⟩) hS ?_
      try simp only [Act.put, List.getElem_toArray, List.getElem_cons_zero, List.getElem_cons_succ, List.setIfInBounds_toArray, List.set_cons_zero, List.set_cons_succ]
      refine wpAnyH_take (i := 2) (v := .slice ao s.length cap) rfl (by kernel_rfl) (by kernel_rfl) (by kernel_rfl) (fun _ _ _ h => h) (Or.inl ⟨by rfl, fun w hSw => by obtain ⟨hw0, hw1, hw2, hw3⟩ := hSw; clear hS hw3; go_simp⟩) hS ?_
      try simp only [Act.put, List.getElem_toArray, List.getElem_cons_zero, List.getElem_cons_succ, List.setIfInBounds_toArray, List.set_cons_zero, List.set_cons_succ]
      refine wpAnyH_take (i := 3) (v := .pointer (some ⟨wr.heap.size, 1, none⟩)) rfl (by kernel_rfl) (by kernel_rfl) (by kernel_rfl) (fun _ _ _ h => h) (Or.inl ⟨by rfl, fun w hSw => by obtain ⟨hw0, hw1, hw2, hw3⟩ := hSw; clear hS hw3; go_simp⟩) hS ?_
      try simp only [Act.put, List.getElem_toArray, List.getElem_cons_zero, List.getElem_cons_succ, List.setIfInBounds_toArray, List.set_cons_zero, List.set_cons_succ]
      refine wpAnyH_take (i := 4) (v := .string m.name) rfl (by kernel_rfl) (by kernel_rfl) (by kernel_rfl) (fun _ _ _ h => h) (Or.inl ⟨by rfl, fun w hSw => by obtain ⟨hw0, hw1, hw2, hw3⟩ := hSw; clear hS hw3; go_simp⟩) hS ?_
      try simp only [Act.put, List.getElem_toArray, List.getElem_cons_zero, List.getElem_cons_succ, List.setIfInBounds_toArray, List.set_cons_zero, List.set_cons_succ]
      refine wpAnyH_ready (rs := [5]) (by kernel_rfl) (by simp) (AllReadyH.cons rfl (fun K hK => ?_) AllReadyH.nil)
      rw [if_pos (by rfl)]
      go_simp
      go_at_call 46
      refine (get_calls _ s m.name _ hS.2.2.2.row hsl).mono ?_
      rintro e w3 ⟨rfl, hb3⟩
      refine hK _ _ (mat_keep hS hb3) (fun hS => ?_)
      clear hK K
      try simp only [Act.put, List.getElem_toArray, List.getElem_cons_zero, List.getElem_cons_succ, List.setIfInBounds_toArray, List.set_cons_zero, List.set_cons_succ]
      refine wpAnyH_ready (rs := [6]) (by kernel_rfl) (by simp) (AllReadyH.cons rfl (fun K hK => ?_) AllReadyH.nil)
      rw [if_pos (by rfl)]
      go_simp
      go_at_call 45
      refine (holds_calls sp l m _ _ hS.2.2.2.set HMem.out hk1 hk4 hs3 hgv).mono ?_
      rintro e w4 ⟨rfl, hb4⟩
      rw [HY.out]
      refine hK _ _ (mat_keep hS hb4) (fun hS => ?_)
      clear hK K
      try simp only [Act.put, List.getElem_toArray, List.getElem_cons_zero, List.getElem_cons_succ, List.setIfInBounds_toArray, List.set_cons_zero, List.set_cons_succ]
      refine wpAnyH_take (i := 7) (v := .bool (!y)) rfl (by kernel_rfl) (by kernel_rfl) (by kernel_rfl) (fun _ _ _ h => h) (Or.inl ⟨by rfl, fun w hSw => by obtain ⟨hw0, hw1, hw2, hw3⟩ := hSw; clear hS hw3; go_simp⟩) hS ?_
      try simp only [Act.put, List.getElem_toArray, List.getElem_cons_zero, List.getElem_cons_succ, List.setIfInBounds_toArray, List.set_cons_zero, List.set_cons_succ]
      refine wpAnyH_done (by kernel_rfl) ?_ _
      have HMs4 := Lib.hid hS.2.2.2
      have HR4 := Lib.hid (((HRa.out.below (Below.refl _ _).drew).below hb3).below hb4)
      have HB4 := Lib.hid (after (after (HBel.out.alloc HBel.out.size (.cells #[.int .i64 m.kind, .string m.name, .string m.value] 48)).drew (Nat.le_refl _) hb3) (Nat.le_refl _) hb4)
      clear hS hb3 hb4
      cases y with
      | true =>
        have hall' : (l.take (k + 1)).all (fun m => holdsB m (getL m.name s)) = true := by
          obtain ⟨hlt, hm'⟩ : ∃ h : k < l.length, True := ⟨hkl, trivial⟩
          rw [HAt.out, HAll.out, HY.out]; rfl
        have HAl := Lib.hid hall'; clear hall'
        go_wp2_with fail
        go_roundw
        case rel => exact ⟨k + 1, by omega, by go_num, HAl.out, HMs4.out, HR4.out, HB4.out⟩
        case measure => (simp [intOf] <;> omega)
      | false =>
        have hfin : meantB l s = false := all_falseM HMem.out _ HY.out
        have HF := Lib.hid hfin; clear hfin
        go_wp2_with fail
        go_ret
        exact ⟨by rw [HF.out]; rfl, HB4.out⟩
    · have hfin : meantB l s = true := by rw [meantB, ← HAll.out, List.take_of_length_le (by omega)]
      have HF := Lib.hid hfin; clear hfin
      clear hms hRm
      go_wp2_with fail
      go_ret
      exact ⟨by rw [HF.out]; rfl, HBel.out⟩
end Go.Proofs.Ytokcffkffcfolaa.Ma
