/-
  Names, each once (agg.Once); groupings (agg.Check).
-/
import Derived.Test.YtnbgigdloehbjaaGreatDoorIrP
import Derived.Test.YtnbgigdloehbjaaGreatDoorIrC
import Derived.Maps.Own
import Derived.Maps.Views
import Derived.Carry
namespace Go.Proofs.YtnbgigdloehbjaaGreatDoor.Ir
open Go Go.RowKit Go.Proofs.YtnbgigdloehbjaaGreatDoor.Rg Go.Proofs.YtnbgigdloehbjaaGreatDoor.Ma
set_option maxHeartbeats 4000000
set_option maxRecDepth 100000

def keyS (s : ByteArray) : Lit := .string s.data.toList
theorem keyS_inj {a b : ByteArray} (h : keyS a = keyS b) : a = b := by
  obtain ⟨⟨a⟩⟩ := a
  obtain ⟨⟨b⟩⟩ := b
  simp only [keyS, Lit.string.injEq] at h
  rw [h]
theorem boolElem_inv {v : Value} {x : Bool} {ps : List MemPlace} (h : (plainElem (H := Unit) Tryz.prog 4) v = some (.lit (.bool x), ps)) : v = .bool x := by
  unfold plainElem at h
  rw [Tryz.underlying4] at h
  cases v <;> simp at h
  obtain ⟨rfl, _⟩ := h
  rfl
/-- The set of names among l. -/
def SMap (w : World) (b n : Nat) (l : List ByteArray) : Prop :=
  ∃ D : DataW Unit, w.ownsMap Tryz.prog 9 (plainElem (H := Unit) Tryz.prog 4) b n D ∧ Maps.IsMap D ∧ ∀ s, D.atKey (keyS s) (.lit (.bool false)) = .lit (.bool (decide (s.data ∈ dl l)))
theorem SMap.nil (w : World) : SMap (w.alloc (.map #[] 0)) w.heap.size 0 [] := ⟨.map [], World.ownsMap_made w _ _ _, ⟨[], rfl⟩, fun s => by simp [DataW.atKey, dl]⟩
theorem SMap.blk {w : World} {b n : Nat} {l : List ByteArray} (h : SMap w b n l) : ∃ es clock, w.heap[b]? = some (.map es clock) := by
  obtain ⟨D, ⟨es, clock, h1, _⟩, _⟩ := h
  exact ⟨es, clock, h1⟩
theorem SMap.put {w : World} {b n : Nat} {l : List ByteArray} (h : SMap w b n l) (hn : n < maxLen) (s : ByteArray) (hs : s.size ≤ maxLen) :
    ∃ w', (Instr.mapUpdate 148 (.map (some b)) (.string s) (.bool true)).run Tryz.prog w = .ok () w' ∧ SMap w' b (n + 1) (l ++ [s]) ∧ w.grownBy w' (some b) := by
  obtain ⟨D, h1, h2, h3⟩ := h
  have hkey : keyOf Tryz.prog 9 (.string s) = some (keyS s) := Go.WideMaps.keyOf_string_mk Tryz.underlying9 hs
  obtain ⟨w', hrun, hown, hg⟩ := h1.update (Maps.string_keyed Tryz.underlying9) Tryz.underlying148 hn hkey (val := .bool true) (d := .lit (.bool true)) (ps := []) (plainElem_bool Tryz.underlying4 true)
  refine ⟨w', hrun, ⟨_, hown, hown.isMap, fun x => ?_⟩, hg⟩
  by_cases hk : keyS x = keyS s
  · have hxv := keyS_inj hk
    subst hxv
    rw [Maps.atKey_put_same h2 (by simp [WideAt.IsKeyLit, keyS]) _ _]
    simp [dl]
  · rw [Maps.atKey_put_other hk, h3]
    have hne : x.data ≠ s.data := fun e => hk (by rw [keyS, keyS, e])
    simp [dl, hne]
theorem SMap.look {w : World} {b n : Nat} {l : List ByteArray} (h : SMap w b n l) (s : ByteArray) (hs : s.size ≤ maxLen) :
    (Instr.lookup 148 (.map (some b)) (.string s) false).run Tryz.prog w = .ok (.bool (decide (s.data ∈ dl l))) w := by
  obtain ⟨D, h1, h2, h3⟩ := h
  have hkey : keyOf Tryz.prog 9 (.string s) = some (keyS s) := Go.WideMaps.keyOf_string_mk Tryz.underlying9 hs
  obtain ⟨v, ps, hrun, hv⟩ := h1.lookup (Maps.string_keyed Tryz.underlying9) Tryz.underlying148 (z := .bool false) (by kernel_rfl) (zd := .lit (.bool false)) (zp := []) (plainElem_bool Tryz.underlying4 false) hkey
  rw [h3] at hv
  rw [boolElem_inv hv] at hrun
  exact hrun
theorem str_at {W : World} {F : Nat → Prop} {ao : Option Addr} {cap : Nat} {l : List ByteArray} (h : Row W F (.slice ao l.length cap) l.length 1 (scells l)) {k : Nat} (hk : k < l.length) :
    ∃ b o, ao = some ⟨b, o, none⟩ ∧ ∃ s, l[k]? = some s ∧ W.cell? ⟨b, o + k, none⟩ = some (.string s) := by
  obtain ⟨_, ao', cap', hv, hc⟩ := h
  simp only [Value.slice.injEq, true_and] at hv
  obtain ⟨rfl, rfl⟩ := hv
  obtain ⟨b, o, _, ha, hr⟩ := hc (by omega)
  exact ⟨b, o, ha, l[k], List.getElem?_eq_getElem hk, hr k _ (by simp [scells, hk])⟩
theorem once_bad {l : List ByteArray} {k : Nat} {s : ByteArray} (hs : l[k]? = some s) (h : s.data ∈ dl (l.take k) ∨ nameB s = false) : onceB l = false := by
  obtain ⟨hlt, rfl⟩ := List.getElem?_eq_some_iff.1 hs
  rw [onceB]
  rcases h with h | h
  · have : ¬ (dl l).Nodup := by
      intro hn
      rw [← List.take_append_drop k l, dl, List.map_append, List.nodup_append] at hn
      refine hn.2.2 _ h l[k].data ?_ rfl
      rw [List.mem_map]
      exact ⟨l[k], List.mem_of_getElem? (i := 0) (by rw [List.getElem?_drop, Nat.add_zero]; exact List.getElem?_eq_getElem hlt), rfl⟩
    simp [this]
  · have : l.all nameB = false := by
      rw [List.all_eq_false]
      exact ⟨l[k], List.getElem_mem hlt, by rw [h]; decide⟩
    rw [this, Bool.and_false]
theorem once_calls (v : Value) (l : List ByteArray) (W : World) (hR : Row W Any v l.length 1 (scells l)) (hl : l.length ≤ 100000) (hsm : ∀ s ∈ l, s.size ≤ 300) (x : Bool) (hx : onceB l = x) : Calls Tryz.prog 82 #[v] W (RetB (.bool x) W) := by
  obtain ⟨_, ao, cap, rfl, _⟩ := id hR
  have HR := Lib.hid hR; clear hR
  have HX := Lib.hid hx; clear hx
  have HSm := Lib.hid hsm; clear hsm
  by_cases h32 : 32 < l.length
  · have hfin : x = false := by rw [← HX.out, onceB]; simp; omega
    have HF := Lib.hid hfin; clear hfin
    go_enter Tryz.func82, Tryz.ntmps82
    go_wp2_with fail
    go_ret
    exact ⟨by rw [HF.out]; rfl, Below.refl _ _⟩
  have hsm0 := SMap.nil W
  have HS0 := Lib.hid hsm0; clear hsm0
  have hmm := @run_makeMap Tryz.prog
  go_enter Tryz.func82, Tryz.ntmps82
  go_wp2_with fail
  go_loopw [12] (fun i wr => ∃ k : Nat, k ≤ l.length ∧ i = .int .i64 (k : Int) ∧ SMap wr W.heap.size k (l.take k) ∧ (dl (l.take k)).Nodup ∧ (l.take k).all nameB = true ∧ Below W.heap.size W wr) (fun i _ => l.length - (intOf i).toNat)
  case atStart => exact ⟨0, Nat.zero_le _, rfl, HS0.out, by simp [dl], rfl, (Below.refl _ _).alloc (Nat.le_refl _) _⟩
  case round =>
    obtain ⟨k, hk, rfl, hS, hnd, hall, hbel⟩ := hrel
    by_cases hkl : k < l.length
    · obtain ⟨b, o, ha, s, hs, hc⟩ := str_at (HR.out.keep (by decide) (Keeps.below hbel)) hkl
      subst ha
      have hs3 := HSm.out s (List.mem_of_getElem? hs)
      have hlook := hS.look s (by unfold maxLen; omega)
      have hput := hS.put (by unfold maxLen; omega) s (by unfold maxLen; omega)
      obtain ⟨w', hrun, hS', hg'⟩ := hput
      have hbel' : Below W.heap.size W w' := hbel.grown hg' hbel.size (fun k hk => by cases hk; exact Nat.le_refl _)
      have htk : l.take (k + 1) = l.take k ++ [s] := by
        obtain ⟨hlt, rfl⟩ := List.getElem?_eq_some_iff.1 hs
        rw [List.take_add_one, hs]; rfl
      have HBel := Lib.hid hbel; have HBel' := Lib.hid hbel'; clear hbel hbel' hg'
      have HS' := Lib.hid hS'; clear hS' hS
      have HNd := Lib.hid hnd; have HAll := Lib.hid hall; clear hnd hall
      have HSk := Lib.hid hs; clear hs
      have HTk := Lib.hid htk; clear htk
      by_cases hin : s.data ∈ dl (l.take k)
      · have hd : decide (s.data ∈ dl (l.take k)) = true := by simpa using hin
        rw [hd] at hlook
        have hfin : x = false := by rw [← HX.out]; exact once_bad HSk.out (.inl hin)
        have HF := Lib.hid hfin; clear hfin hin hd hrun
        go_wp2_with fail
        go_ret
        exact ⟨by rw [HF.out]; rfl, HBel.out⟩
      · have hd : decide (s.data ∈ dl (l.take k)) = false := by simpa using hin
        rw [hd] at hlook
        have HIn := Lib.hid hin; clear hin hd
        cases hnm : nameB s with
        | false =>
          have hfin : x = false := by rw [← HX.out]; exact once_bad HSk.out (.inr hnm)
          have HF := Lib.hid hfin; clear hfin hrun
          have HNm := Lib.hid hnm; clear hnm
          go_wp2_with ((with_reducible refine (name_calls s (by unfold maxLen; omega) false HNm.out _).mono ?_); rintro e W1 ⟨rfl, rfl⟩)
          go_ret
          exact ⟨by rw [HF.out]; rfl, HBel.out⟩
        | true =>
          have HNm := Lib.hid hnm; clear hnm
          go_wp2_with ((with_reducible refine (name_calls s (by unfold maxLen; omega) true HNm.out _).mono ?_); rintro e W1 ⟨rfl, rfl⟩)
          go_roundw
          case rel =>
            refine ⟨k + 1, by omega, by go_num, by rw [HTk.out]; exact HS'.out, ?_, ?_, HBel'.out⟩
            · rw [HTk.out, dl, List.map_append, List.nodup_append]
              refine ⟨HNd.out, by simp, ?_⟩
              intro a ha b hb e
              simp at hb
              subst hb e
              exact HIn.out ha
            · rw [HTk.out, List.all_append, HAll.out]; simp [HNm.out]
          case measure => (simp [intOf] <;> omega)
    · have hfin : x = true := by
        have h1 : l.take k = l := List.take_of_length_le (by omega)
        rw [h1] at hnd hall
        rw [← HX.out, onceB, hall]
        simp [hnd]; omega
      have HF := Lib.hid hfin; clear hfin hS hnd hall
      have HBel := Lib.hid hbel; clear hbel
      go_wp2_with fail
      go_ret
      exact ⟨by rw [HF.out]; rfl, HBel.out⟩
end Go.Proofs.YtnbgigdloehbjaaGreatDoor.Ir
