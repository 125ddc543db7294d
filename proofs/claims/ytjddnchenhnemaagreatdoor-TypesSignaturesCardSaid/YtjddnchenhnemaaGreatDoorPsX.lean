/-
  All names of functions (package types): they rise.
-/
import Derived.Test.YtjddnchenhnemaaGreatDoorPsD
import Derived.Test.YtjddnchenhnemaaGreatDoorShelS
namespace Go.Proofs.YtjddnchenhnemaaGreatDoor.Ps
open Go Go.RowKit Go.Sort Go.Proofs.YtjddnchenhnemaaGreatDoor.QT Go.Proofs.YtjddnchenhnemaaGreatDoor.Rg Go.Proofs.YtjddnchenhnemaaGreatDoor.Ma Go.Proofs.YtjddnchenhnemaaGreatDoor.Ir
set_option maxHeartbeats 8000000
set_option maxRecDepth 100000
def name9 : List ByteArray := [⟨#[97, 98, 115]⟩, ⟨#[97, 98, 115, 101, 110, 116]⟩, ⟨#[99, 108, 97, 109, 112, 95, 109, 97, 120]⟩, ⟨#[99, 108, 97, 109, 112, 95, 109, 105, 110]⟩, ⟨#[108, 97, 98, 101, 108, 95, 115, 101, 116]⟩, ⟨#[115, 99, 97, 108, 97, 114]⟩, ⟨#[115, 103, 110]⟩, ⟨#[116, 105, 109, 101]⟩, ⟨#[118, 101, 99, 116, 111, 114]⟩]
def winL : List ByteArray := [⟨#[99, 111, 117, 110, 116, 95, 111, 118, 101, 114, 95, 116, 105, 109, 101]⟩, ⟨#[115, 117, 109, 95, 111, 118, 101, 114, 95, 116, 105, 109, 101]⟩, ⟨#[97, 118, 103, 95, 111, 118, 101, 114, 95, 116, 105, 109, 101]⟩, ⟨#[109, 105, 110, 95, 111, 118, 101, 114, 95, 116, 105, 109, 101]⟩, ⟨#[109, 97, 120, 95, 111, 118, 101, 114, 95, 116, 105, 109, 101]⟩, ⟨#[108, 97, 115, 116, 95, 111, 118, 101, 114, 95, 116, 105, 109, 101]⟩, ⟨#[102, 105, 114, 115, 116, 95, 111, 118, 101, 114, 95, 116, 105, 109, 101]⟩, ⟨#[105, 110, 99, 114, 101, 97, 115, 101]⟩, ⟨#[114, 97, 116, 101]⟩, ⟨#[100, 101, 108, 116, 97]⟩, ⟨#[99, 104, 97, 110, 103, 101, 115]⟩, ⟨#[114, 101, 115, 101, 116, 115]⟩, ⟨#[119, 97, 118, 101, 95, 109, 97, 103]⟩, ⟨#[119, 97, 118, 101, 95, 116, 117, 114, 110]⟩]
/-- All, rising. -/
def sortL : List ByteArray := [⟨#[97, 98, 115]⟩, ⟨#[97, 98, 115, 101, 110, 116]⟩, ⟨#[97, 118, 103, 95, 111, 118, 101, 114, 95, 116, 105, 109, 101]⟩, ⟨#[99, 104, 97, 110, 103, 101, 115]⟩, ⟨#[99, 108, 97, 109, 112, 95, 109, 97, 120]⟩, ⟨#[99, 108, 97, 109, 112, 95, 109, 105, 110]⟩, ⟨#[99, 111, 117, 110, 116, 95, 111, 118, 101, 114, 95, 116, 105, 109, 101]⟩, ⟨#[100, 101, 108, 116, 97]⟩, ⟨#[102, 105, 114, 115, 116, 95, 111, 118, 101, 114, 95, 116, 105, 109, 101]⟩, ⟨#[105, 110, 99, 114, 101, 97, 115, 101]⟩, ⟨#[108, 97, 98, 101, 108, 95, 115, 101, 116]⟩, ⟨#[108, 97, 115, 116, 95, 111, 118, 101, 114, 95, 116, 105, 109, 101]⟩, ⟨#[109, 97, 120, 95, 111, 118, 101, 114, 95, 116, 105, 109, 101]⟩, ⟨#[109, 105, 110, 95, 111, 118, 101, 114, 95, 116, 105, 109, 101]⟩, ⟨#[114, 97, 116, 101]⟩, ⟨#[114, 101, 115, 101, 116, 115]⟩, ⟨#[115, 99, 97, 108, 97, 114]⟩, ⟨#[115, 103, 110]⟩, ⟨#[115, 117, 109, 95, 111, 118, 101, 114, 95, 116, 105, 109, 101]⟩, ⟨#[116, 105, 109, 101]⟩, ⟨#[118, 101, 99, 116, 111, 114]⟩, ⟨#[119, 97, 118, 101, 95, 109, 97, 103]⟩, ⟨#[119, 97, 118, 101, 95, 116, 117, 114, 110]⟩]
def raw (l : List ByteArray) : List (List UInt8) := l.map fun s => s.data.toList
theorem sort_all : (raw (name9 ++ winL)).mergeSort (fun x y => decide (x ≤ y)) = raw sortL := by
  refine List.Perm.eq_of_pairwise (le := fun x y : List UInt8 => decide (x ≤ y) = true) (fun a b _ _ h1 h2 => List.le_antisymm (of_decide_eq_true h1) (of_decide_eq_true h2)) (List.pairwise_mergeSort ?_ ?_ _) (by decide +kernel) ((List.mergeSort_perm _ _).trans (List.isPerm_iff.1 (by decide +kernel)))
  · intro a b c h1 h2
    exact decide_eq_true (List.le_trans (of_decide_eq_true h1) (of_decide_eq_true h2))
  · intro a b
    rcases List.le_total a b with h | h
    · simp [h]
    · simp [h]
theorem infoS : (Tryz.prog.info? 9).map (fun i => (i.zero, i.size, i.bytes)) = some (some (.string ⟨#[]⟩), 1, 16) := by kernel_rfl
theorem strs_one (l : List ByteArray) : ∀ u ∈ scells l, u.oneCell' = true := by
  intro u hu
  simp only [scells, List.mem_map] at hu
  obtain ⟨c, _, rfl⟩ := hu
  rfl
theorem wpList_appS {ops : Array Oper} {rest : List Oper} {o : Oper} {a : Act} {Q : Exit → Act → World → Prop} (hgd : o.guard = none) (s xo : Operand)
    (ho : o.op = .call { callee := .builtin .append, args := #[s, xo], argTypes := #[31, 31] })
    {B : Nat} {wr : World} {v : Value} {N : Nat} {l : List ByteArray} (h : wr.ownsRow B 9 1 v N (scells l)) (hB : B ≤ wr.heap.size) (t : ByteArray) (hN : N ≤ 1000)
    (H : Nat) (hH : wr.heap.size = H) (hs : a.eval s = v) (hx : a.eval xo = .slice (some ⟨H, 0, none⟩) 1 1)
    (hk : ∀ g cap w', w'.ownsRow B 9 1 (.slice (some ⟨g, 0, none⟩) (N + 1) cap) (N + 1) (scells (l ++ [t])) → (wr.alloc (.cells #[.string t] 9)).grownBy w' v.ownBlock → wpList Tryz.prog ops Q rest (a.put o.dst (.slice (some ⟨g, 0, none⟩) (N + 1) cap)) w') :
    wpList Tryz.prog ops Q (o :: rest) a (wr.alloc (.cells #[.string t] 9)) := by
  subst hH
  obtain ⟨i0, hi0, hz0, hz1, hz2⟩ := info_parts infoS
  refine wpList_append_lies _ hgd s xo 31 ho B 9 i0 (.string ⟨#[]⟩) 1 16 Tryz.underlying31 hi0 hz0 hz1 hz2 rfl (by decide) v N (scells l) hs (h.alloc _) ⟨wr.heap.size, 0, none⟩ 1 1 (scells [t]) hx rfl (World.news_of_block (cs := (scells [t]).toArray) (t := 9) (fr := (0, 0)) (blk_new _ _)) (strs_one _) (by decide) (by unfold maxLen; omega) (by omega) (by simp; omega) (wr.heap.size + 1) (by simp) ?_
  intro g cap w' hown hgrow hat hlt'
  refine hk g cap w' ?_ hgrow
  have : scells (l ++ [t]) = scells l ++ scells [t] := by simp [scells]
  rw [this]; exact hown
theorem winName_calls (k : Nat) (h1 : 1 ≤ k) (h2 : k ≤ 14) (t : ByteArray) (ht : windowL[k]? = some t) (W : World) : Calls Tryz.prog 13 #[.int .i64 (k : Int)] W (RetB (.string t) W) := by
  have HT := Lib.hid ht; clear ht
  go_enter Tryz.func13, Tryz.ntmps13
  go_wp2_with fail
  (with_reducible refine (windowNames_calls _).mono ?_)
  rintro e W1 ⟨v, rfl, hR, hb⟩
  obtain ⟨_, ao, cap, rfl, _⟩ := id hR
  obtain ⟨b, o, t', rfl, ht', hc⟩ := row_str hR rfl (k := k) (by show k < 15; omega)
  have : t' = t := by have := HT.out; rw [ht'] at this; exact Option.some.inj this
  subst this
  have HB := Lib.hid hb
  have hl15 : windowL.length = 15 := rfl
  rw [hl15]
  clear hR hb ht' hl15
  go_wp2_with fail
  go_ret
  exact ⟨rfl, HB.out⟩
theorem own_below' {w w1 : World} {base e size : Nat} {v : Value} {n : Nat} {xs : List Value} (h : w.ownsRow base e size v n xs) (hb : Below w.heap.size w w1) : w1.ownsRow base e size v n xs := by
  refine ⟨h.1, ?_⟩
  rcases h.2 with h1 | ⟨g, cap, cur, h1, h2, h3, h4⟩
  · exact .inl h1
  · exact .inr ⟨g, cap, cur, h1, h2, (hb.block g (blk_lt h3)).trans h3, h4⟩
theorem holds_of_own {w : World} {B : Nat} {ao : Option Addr} {cap : Nat} (h : w.ownsRow B 9 1 (.slice ao (9 + 14) cap) (9 + 14) (scells (name9 ++ winL))) :
    ∃ g, ao = some ⟨g, 0, none⟩ ∧ Holds encStr w g 0 (raw (name9 ++ winL)).toArray ∧ g < w.heap.size ∧ B ≤ g := by
  rcases h.2 with ⟨h1, h2⟩ | ⟨g, cap', cur, h1, h2, h3, h4, h5, h6, h7⟩
  · cases h2
  · simp only [Value.slice.injEq] at h1
    obtain ⟨rfl, -, rfl⟩ := h1
    refine ⟨g, rfl, fun j hj => ?_, blk_lt h3, h2⟩
    have hj23 : j < 23 := hj
    refine ⟨?_, by rw [Nat.zero_add]; exact blk_frozen h3 j⟩
    rw [Nat.zero_add, blk_cell h3, ← Array.getElem?_toList]
    have h8 : (cur.toList.take ((9 + 14) * 1))[j]? = (scells (name9 ++ winL))[j]? := by rw [h7]
    rw [List.getElem?_take, if_pos (by omega)] at h8
    rw [h8]
    have : ∀ j : Fin 23, (scells (name9 ++ winL))[j.val]? = some (encStr (raw (name9 ++ winL)).toArray[j.val]!) := by
      intro j
      match j with
      | ⟨0, _⟩ => rfl
      | ⟨1, _⟩ => rfl
      | ⟨2, _⟩ => rfl
      | ⟨3, _⟩ => rfl
      | ⟨4, _⟩ => rfl
      | ⟨5, _⟩ => rfl
      | ⟨6, _⟩ => rfl
      | ⟨7, _⟩ => rfl
      | ⟨8, _⟩ => rfl
      | ⟨9, _⟩ => rfl
      | ⟨10, _⟩ => rfl
      | ⟨11, _⟩ => rfl
      | ⟨12, _⟩ => rfl
      | ⟨13, _⟩ => rfl
      | ⟨14, _⟩ => rfl
      | ⟨15, _⟩ => rfl
      | ⟨16, _⟩ => rfl
      | ⟨17, _⟩ => rfl
      | ⟨18, _⟩ => rfl
      | ⟨19, _⟩ => rfl
      | ⟨20, _⟩ => rfl
      | ⟨21, _⟩ => rfl
      | ⟨22, _⟩ => rfl
      | ⟨n + 23, h⟩ => exact absurd h (by omega)
    exact this ⟨j, hj23⟩
theorem sorted_row {w : World} {g m : Nat} {cap : Nat} {os : Array Obj} (hH : Holds encStr w g 0 (raw (name9 ++ winL)).toArray) (hlt : g < w.heap.size) :
    Row (grow (putRow encStr (Sort.ahead w m) g 0 (raw sortL).toArray) os) Any (.slice (some ⟨g, 0, none⟩) 23 cap) sortL.length 1 (scells sortL) := by
  have hH' : Holds encStr (Sort.ahead w m) g 0 (raw (name9 ++ winL)).toArray := hH
  have h1 := holds_putRow encStr (Sort.ahead w m) g 0 _ (raw sortL).toArray hH' (by rfl)
  have hsz : (putRow encStr (Sort.ahead w m) g 0 (raw sortL).toArray).heap.size = w.heap.size := by
    show (mapBlock _ _ _).heap.size = _
    simp [mapBlock, Sort.ahead]
  have h2 := holds_grow encStr _ os g 0 _ (by rw [hsz]; exact hlt) h1
  refine ⟨rfl, _, cap, rfl, fun _ => ⟨g, 0, trivial, rfl, fun j u hj => ?_⟩⟩
  have hj23 : j < 23 := (List.getElem?_eq_some_iff.1 hj).1
  have h3 := (h2 j hj23).1
  rw [h3, ← hj]
  have : ∀ j : Fin 23, (scells sortL)[j.val]? = some (encStr (raw sortL).toArray[j.val]!) := by
    intro j
    match j with
    | ⟨0, _⟩ => rfl
    | ⟨1, _⟩ => rfl
    | ⟨2, _⟩ => rfl
    | ⟨3, _⟩ => rfl
    | ⟨4, _⟩ => rfl
    | ⟨5, _⟩ => rfl
    | ⟨6, _⟩ => rfl
    | ⟨7, _⟩ => rfl
    | ⟨8, _⟩ => rfl
    | ⟨9, _⟩ => rfl
    | ⟨10, _⟩ => rfl
    | ⟨11, _⟩ => rfl
    | ⟨12, _⟩ => rfl
    | ⟨13, _⟩ => rfl
    | ⟨14, _⟩ => rfl
    | ⟨15, _⟩ => rfl
    | ⟨16, _⟩ => rfl
    | ⟨17, _⟩ => rfl
    | ⟨18, _⟩ => rfl
    | ⟨19, _⟩ => rfl
    | ⟨20, _⟩ => rfl
    | ⟨21, _⟩ => rfl
    | ⟨22, _⟩ => rfl
    | ⟨n + 23, h⟩ => exact absurd h (by omega)
  exact (this ⟨j, hj23⟩).symm
theorem below_sorted {W w : World} {g m : Nat} {os : Array Obj} {d : Array (List UInt8)} (hb : Below W.heap.size W w) (hg : W.heap.size ≤ g) : Below W.heap.size W (grow (putRow encStr (Sort.ahead w m) g 0 d) os) := by
  have hsz : (putRow encStr (Sort.ahead w m) g 0 d).heap.size = w.heap.size := by
    show (mapBlock _ _ _).heap.size = _
    simp [mapBlock, Sort.ahead]
  have hs := hb.size
  refine ⟨hb.os, hb.tape, hb.output, ?_, fun k hk => ?_⟩
  · show _ ≤ ((putRow encStr (Sort.ahead w m) g 0 d).heap ++ os).size
    rw [Array.size_append, hsz]; omega
  · rw [heap_grow_old _ _ (by rw [hsz]; omega)]
    refine Eq.trans ?_ (hb.block k hk)
    show (mapBlock (Sort.ahead w m) g _).heap[k]? = _
    simp only [mapBlock, Sort.ahead, Array.getElem?_modify]
    rw [if_neg (by omega)]
theorem names_calls (W : World) : Calls Tryz.prog 7 #[] W (RetR sortL W) := by
  go_enter Tryz.func7, Tryz.ntmps7
  go_wp2_with fail
  go_loopw [1, 2] (fun v i wr => ∃ k : Nat, k ≤ 14 ∧ i = .int .i64 ((k : Int) + 1) ∧ wr.ownsRow W.heap.size 9 1 v (9 + k) (scells (name9 ++ winL.take k)) ∧ Below W.heap.size W wr) (fun _ i _ => (15 - intOf i).toNat)
  case atStart => exact ⟨0, by decide, rfl, ⟨rfl, .inr ⟨W.heap.size, 9, (scells name9).toArray, rfl, Nat.le_refl _, blk_new W _, by decide, by decide, rfl, rfl⟩⟩, (Below.refl _ _).alloc (Nat.le_refl _) _⟩
  case round =>
    obtain ⟨k, hk, rfl, hown, hbel⟩ := hrel
    obtain ⟨ao, cap, rfl⟩ := own_any hown
    by_cases hk14 : k < 14
    · have hwl : winL.length = 14 := rfl
      obtain ⟨t, ht⟩ : ∃ t, winL[k]? = some t := ⟨_, List.getElem?_eq_getElem (by rw [hwl]; exact hk14)⟩
      have ht2 : windowL[k + 1]? = some t := ht
      have htk : winL.take (k + 1) = winL.take k ++ [t] := by rw [List.take_add_one, ht]; rfl
      have HN := Lib.hid (winName_calls (k + 1) (by omega) (by omega) t ht2)
      have HTk := Lib.hid htk; have HOwn := Lib.hid hown; have HBel := Lib.hid hbel
      have hsz := hbel.size
      clear hwl ht ht2 htk hown hbel
      have hc : ((k + 1 : Nat) : Int) = (k : Int) + 1 := by omega
      rw [hc] at HN
      clear hc
      go_wp2_with fail
      (with_reducible refine (HN.out _).mono ?_)
      rintro e w1 ⟨rfl, hb1⟩
      have hown1 := HOwn.out
      have HOwn1 := Lib.hid (own_below' hown1 hb1)
      have hbel1 := HBel.out.trans (hb1.mono hsz)
      have hsz1 := hbel1.size
      have HBel1 := Lib.hid hbel1
      clear hb1 hbel1 hown1
      go_wp2_with (at_builtin; refine wpList_appS rfl (.tmp 8) (.tmp 11) rfl HOwn1.out hsz1 t (by omega) _ rfl rfl rfl ?_; intro g1 cap1 w2 hown2 hgrow2; have HOwn2 := Lib.hid hown2; have HBel2 := Lib.hid ((HBel1.out.alloc hsz1 _).grown hgrow2 (by simp; omega) (fun k hk => (HOwn1.out.lt k hk).1)); clear hown2 hgrow2)
      go_roundw
      case rel => exact ⟨k + 1, by omega, by go_num, by rw [HTk.out, ← List.append_assoc]; exact HOwn2.out, HBel2.out⟩
      case measure => (simp [intOf] <;> omega)
    · obtain rfl : k = 14 := by omega
      have hall : name9 ++ winL.take 14 = name9 ++ winL := rfl
      rw [hall] at hown
      obtain ⟨g, hg, hH, hlt, hbg⟩ := holds_of_own hown
      subst hg
      have HS := Lib.hid (Tryz.slices_Sort_string g 0 cap (raw (name9 ++ winL)) wr hH hlt (by decide))
      rw [sort_all] at HS
      have hl23 : (raw (name9 ++ winL)).length = 23 := rfl
      rw [hl23] at HS
      have HBel := Lib.hid hbel; have HH := Lib.hid hH
      clear hall hown hbel hl23 hH
      go_wp2_with fail
      (with_reducible refine HS.out.mono ?_)
      rintro e w' ⟨rfl, m, os, rfl⟩
      go_wp2_with fail
      go_ret
      exact ⟨_, rfl, sorted_row HH.out hlt, below_sorted HBel.out hbg⟩
end Go.Proofs.YtjddnchenhnemaaGreatDoor.Ps
