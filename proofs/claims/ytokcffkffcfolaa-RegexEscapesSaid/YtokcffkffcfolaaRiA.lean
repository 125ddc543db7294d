/-
  Literal: what it computes (plain); the program's and the document's compute it.
-/
import Derived.Test.YtokcffkffcfolaaRhG
import Derived.Test.YtokcffkffcfolaaRsC
namespace Go.Proofs.Ytokcffkffcfolaa.Rh
open Go Go.RowKit Go.Proofs.Ytokcffkffcfolaa.Rg

/-- The text that a pattern says, if it is one alone. -/
def litU : List UInt8 → Option (List UInt8)
  | [] => some []
  | [c] => if c = 92 then none else if isSpec c = true then none else some [c]
  | c :: d :: l => if c = 92 then (litU l).map (d :: ·) else if isSpec c = true then none else (litU (d :: l)).map (c :: ·)
theorem litU_esc (d : UInt8) (l : List UInt8) : litU (92 :: d :: l) = (litU l).map (d :: ·) := by rw [litU, if_pos rfl]
theorem litU_spec {c : UInt8} (h : c ≠ 92) (hs : isSpec c = true) (l : List UInt8) : litU (c :: l) = none := by
  cases l with
  | nil => rw [litU, if_neg h, if_pos hs]
  | cons d l => rw [litU, if_neg h, if_pos hs]
theorem litU_plain {c : UInt8} (hs : isSpec c = false) (l : List UInt8) : litU (c :: l) = (litU l).map (c :: ·) := by
  have h : c ≠ 92 := by rintro rfl; exact absurd hs (by decide)
  cases l with
  | nil => rw [show litU ([] : List UInt8) = some [] from rfl, litU, if_neg h, if_neg (by rw [hs]; simp)]; rfl
  | cons d l => rw [litU, if_neg h, if_neg (by rw [hs]; simp)]
theorem litU_escL : ∀ l : List UInt8, litU (escL l) = some l
  | [] => rfl
  | c :: l => by
    rw [escL]
    by_cases h : isSpec c = true
    · rw [if_pos h, litU_esc, litU_escL l]; rfl
    · rw [if_neg h, litU_plain (by simpa using h), litU_escL l]; rfl
def litR (s : ByteArray) : ByteArray × Bool :=
  if errOf s = 0 then (match litU s.data.toList with | some o => (⟨o.toArray⟩, true) | none => (⟨#[]⟩, false)) else (⟨#[]⟩, false)
/-- Bytes that stand for themselves, or behind a stroke. -/
inductive Lt : List Nat → Prop
  | nil : Lt []
  | plain {c l} : c ∉ special → Lt l → Lt (l ++ [c])
  | esc {c l} : Lt l → Lt (l ++ [92, c])
inductive Lf : List Nat → Prop
  | nil : Lf []
  | plain {c l} : c ∉ special → Lf l → Lf (c :: l)
  | esc {c l} : Lf l → Lf (92 :: c :: l)
theorem Lf.app {a b : List Nat} (h : Lf a) (k : Lf b) : Lf (a ++ b) := by
  induction h with
  | nil => exact k
  | plain hc _ ih => exact .plain hc ih
  | esc _ ih => exact .esc ih
theorem Lt.front {l : List Nat} (h : Lt l) : Lf l := by
  induction h with
  | nil => exact .nil
  | plain hc _ ih => exact ih.app (.plain hc .nil)
  | esc _ ih => exact ih.app (.esc .nil)
theorem no_spec {c : Nat} {t u : List Nat} (hc : c ∈ special) (h92 : c ≠ 92) (h : Lf u) (e : c :: t = u ++ [92]) : False := by
  cases h with
  | nil => simp at e; exact h92 e.1
  | plain hd _ => simp at e; obtain ⟨rfl, _⟩ := e; exact hd hc
  | esc _ => simp at e; exact h92 e.1
theorem G.no_end {T' : Ty} {d : Nat} {w : List Nat} {e : Re} (h : G T' d w e) : ∀ t u, Lf u → w ++ t = u ++ [92] → ∃ u', Lf u' ∧ t = u' ++ [92] := by
  induction h with
  | dot => intro t u hu he; exact (no_spec (by decide) (by decide) hu he).elim
  | esc hc =>
    intro t u hu he
    cases hu with
    | nil => simp at he
    | plain hd _ => simp at he; obtain ⟨rfl, _⟩ := he; exact absurd (by decide) hd
    | esc hl => simp at he; exact ⟨_, hl, he.2⟩
  | byte hc =>
    intro t u hu he
    cases hu with
    | nil => simp at he; obtain ⟨rfl, _⟩ := he; exact absurd (by decide) hc
    | plain hd hl => simp at he; exact ⟨_, hl, he.2⟩
    | esc hl => simp at he; obtain ⟨rfl, _⟩ := he; exact absurd (by decide) hc
  | cls hc => intro t u hu he; cases hc <;> exact (no_spec (by decide) (by decide) hu he).elim
  | group _ _ => intro t u hu he; exact (no_spec (by decide) (by decide) hu he).elim
  | none => intro t u hu he; exact ⟨u, hu, he⟩
  | one _ _ iha ihv =>
    intro t u hu he
    rw [List.append_assoc] at he
    obtain ⟨u1, h1, e1⟩ := iha _ _ hu he
    exact ihv _ _ h1 e1
  | star _ _ iha _ =>
    intro t u hu he
    rw [List.append_assoc] at he
    obtain ⟨u1, h1, e1⟩ := iha _ _ hu he
    exact (no_spec (by decide) (by decide) h1 e1).elim
  | plus _ _ iha _ =>
    intro t u hu he
    rw [List.append_assoc] at he
    obtain ⟨u1, h1, e1⟩ := iha _ _ hu he
    exact (no_spec (by decide) (by decide) h1 e1).elim
  | opt _ _ iha _ =>
    intro t u hu he
    rw [List.append_assoc] at he
    obtain ⟨u1, h1, e1⟩ := iha _ _ hu he
    exact (no_spec (by decide) (by decide) h1 e1).elim
  | last _ ih => exact ih
  | alt _ _ ihw _ =>
    intro t u hu he
    rw [List.append_assoc] at he
    obtain ⟨u1, h1, e1⟩ := ihw _ _ hu he
    exact (no_spec (by decide) (by decide) h1 e1).elim
/-- A pattern does not end in a stroke behind bytes that stand for themselves. -/
theorem not_end {s : ByteArray} (h0 : errOf s = 0) {u : List Nat} (hu : Lt u) (e : nats s = u ++ [92]) : False := by
  obtain ⟨_, f, hG, _⟩ := comp_sound h0
  obtain ⟨u', _, h⟩ := G.no_end hG [] u hu.front (by simpa using e)
  simp at h
/-- In the midst of Literal: k bytes are read, o is what they say. -/
structure Lo (s : ByteArray) (k : Nat) (o : List UInt8) : Prop where
  lt : Lt ((s.data.toList.take k).map UInt8.toNat)
  eq : litU s.data.toList = (litU (s.data.toList.drop k)).map (o ++ ·)
  len : o.length ≤ k
theorem Lo.start (s : ByteArray) : Lo s 0 [] := ⟨.nil, by simp, Nat.le_refl _⟩
section
variable {s : ByteArray} {k : Nat} {o : List UInt8}
theorem drop_at (h : k < s.size) : s.data.toList.drop k = s[k]'h :: s.data.toList.drop (k + 1) := List.drop_eq_getElem_cons (by rw [Array.length_toList]; exact h)
theorem take_at (h : k < s.size) : s.data.toList.take (k + 1) = s.data.toList.take k ++ [s[k]'h] := by
  rw [List.take_add_one, List.getElem?_eq_getElem (by rw [Array.length_toList]; exact h)]; rfl
theorem Lo.plain (hl : Lo s k o) (h : k < s.size) (hs : isSpec (s[k]'h) = false) : Lo s (k + 1) (o ++ [s[k]'h]) := by
  refine ⟨?_, ?_, by have := hl.len; simp; omega⟩
  · rw [take_at h, List.map_append]
    exact .plain (by simpa [isSpec] using hs) hl.lt
  · rw [hl.eq, drop_at h, litU_plain hs, Option.map_map]
    congr 1
    funext x
    simp
theorem Lo.spec (hl : Lo s k o) (h : k < s.size) (h92 : s[k]'h ≠ 92) (hs : isSpec (s[k]'h) = true) : litU s.data.toList = none := by
  rw [hl.eq, drop_at h, litU_spec h92 hs]; rfl
theorem Lo.more (hl : Lo s k o) (h : k < s.size) (h92 : s[k]'h = 92) (h0 : errOf s = 0) : k + 1 < s.size := by
  rcases Nat.lt_or_ge (k + 1) s.size with hlt | hge
  · exact hlt
  · exfalso
    refine not_end h0 hl.lt ?_
    have : s.data.toList = s.data.toList.take (k + 1) := (List.take_of_length_le (by rw [Array.length_toList]; exact hge)).symm
    have e2 : nats s = (s.data.toList.take (k + 1)).map UInt8.toNat := by rw [← this]; rfl
    rw [e2, take_at h, List.map_append, h92]
    rfl
theorem Lo.esc (hl : Lo s k o) (h : k < s.size) (h92 : s[k]'h = 92) (h1 : k + 1 < s.size) : Lo s (k + 2) (o ++ [s[k + 1]'h1]) := by
  refine ⟨?_, ?_, by have := hl.len; simp; omega⟩
  · rw [take_at h1, take_at h, h92, List.append_assoc, List.map_append]
    exact .esc hl.lt
  · rw [hl.eq, drop_at h, h92, drop_at h1, litU_esc, Option.map_map]
    congr 1
    funext x
    simp
theorem Lo.done (hl : Lo s s.size o) : litU s.data.toList = some o := by
  rw [hl.eq, List.drop_of_length_le (by rw [Array.length_toList]; exact Nat.le_refl _)]
  simp [litU]
end
theorem litR_some {s : ByteArray} {o : List UInt8} (h0 : errOf s = 0) (h : litU s.data.toList = some o) : litR s = (⟨o.toArray⟩, true) := by rw [litR, if_pos h0, h]
theorem litR_none {s : ByteArray} (h : errOf s ≠ 0 ∨ litU s.data.toList = none) : litR s = (⟨#[]⟩, false) := by
  rw [litR]
  split
  · rename_i h0
    rcases h with h | h
    · exact absurd h0 h
    · rw [h]
  · rfl
def LitPost (W : World) (s : ByteArray) (e : Ending) (W' : World) : Prop := e = .returned (.tuple #[.string (litR s).1, .bool (litR s).2]) ∧ Below W.heap.size W W'

set_option maxRecDepth 100000 in
set_option maxHeartbeats 4000000 in
theorem literal_calls (s : ByteArray) (hs : s.size ≤ 100000) (W : World) : Calls Try.prog 18 #[.string s] W (LitPost W s) := by
  obtain ⟨i0, hi0, hz0, hz1, hz2⟩ := info_parts infoU8
  have hml : s.size ≤ maxLen := by unfold maxLen; omega
  have HMl := Lib.hid hml; clear hml
  go_enter Try.func18, Try.ntmps18
  go_wp2_with fail
  refine (comp_any s HMl.out _).mono ?_
  rintro q W1 ⟨v, rfl, _, hb1⟩
  have HB1 := Lib.hid hb1; clear hb1
  by_cases h0 : errOf s = 0
  · have H0 := Lib.hid h0
    rw [h0]
    clear h0
    go_wp2_with fail
    go_loopw [8, 7] (fun i v wr => ∃ (k : Nat) (o : List UInt8), k ≤ s.size ∧ i = .int .i64 (k : Int) ∧ wr.ownsRow W.heap.size 5 1 v o.length (u8s o) ∧ Below W.heap.size W wr ∧ Lo s k o) (fun i _ _ => s.size - (intOf i).toNat)
    case atStart => exact ⟨0, [], Nat.zero_le _, rfl, World.ownsRow_nil _ _ _ _, HB1.out, Lo.start s⟩
    case round =>
      obtain ⟨k, o, hk, rfl, hown, hbel, hlo⟩ := hrel
      clear HB1
      obtain ⟨ao, capn, rfl⟩ := own_any hown
      have hol := hlo.len
      have hwsz := hbel.size
      have HOwn := Lib.hid hown; clear hown
      have HBel := Lib.hid hbel; clear hbel
      have HLo := Lib.hid hlo; clear hlo
      by_cases hkb : k < s.size
      · obtain ⟨c, hc⟩ : ∃ c, c = s[k]'hkb := ⟨_, rfl⟩
        have hcl := UInt8.toNat_lt c
        have HC := Lib.hid hc; clear hc
        by_cases h92 : c = 92
        · have hk1 := HLo.out.more hkb (by rw [← HC.out]; exact h92) H0.out
          have hlo2 := HLo.out.esc hkb (by rw [← HC.out]; exact h92) hk1
          have HLo2 := Lib.hid hlo2; clear hlo2
          have hv : ((s[k]'hkb).toNat : Int) = 92 := by rw [← HC.out, h92]; rfl
          have hz0' : (0 : Int) ≤ (k : Int) + 1 := by omega
          have hzt : ((k : Int) + 1).toNat = k + 1 := by omega
          have hzl : (k : Int) + 1 < (s.size : Int) := by omega
          have H92 := Lib.hid h92; clear h92
          go_wp2_with (at_builtin; refine wpList_append_lies _ rfl (.tmp 36) (.tmp 40) _ rfl W.heap.size 5 i0 (.int .u8 0) 1 1 Try.underlying29 hi0 hz0 hz1 hz2 rfl (by decide) (.slice ao o.length capn) o.length (u8s o) rfl (HOwn.out.alloc _) ⟨wr.heap.size, 0, none⟩ 1 1 [.int .u8 (((s[k + 1]'hk1).toNat : Nat) : Int)] rfl rfl (World.news_of_block (cs := #[.int .u8 (((s[k + 1]'hk1).toNat : Nat) : Int)]) (t := 5) (fr := (0, 0)) (blk_new _ _)) (by simp [Value.oneCell']) (by omega) (by unfold maxLen; omega) (by omega) (by simp <;> omega) (wr.heap.size + 1) (by simp) ?_; intro g7 cap7 w7 hown7 hgrow7 hat7 hlt7; have hb7 := (HBel.out.alloc hwsz (.cells #[.int .u8 (((s[k + 1]'hk1).toNat : Nat) : Int)] 5)).grown hgrow7 (by simp <;> omega) (fun k hk => (HOwn.out.lt k hk).1); have hown7' : w7.ownsRow W.heap.size 5 1 (.slice (some ⟨g7, 0, none⟩) (o.length + 1) cap7) (o.length + 1) (u8s (o ++ [s[k + 1]'hk1])) := (by rw [u8s_app]; exact hown7); have HOwn7 := Lib.hid hown7'; have HB7 := Lib.hid hb7; clear hown7 hown7' hgrow7 hat7 hb7)
          go_roundw
          case rel => exact ⟨k + 2, o ++ [s[k + 1]'hk1], by omega, by go_num, by simpa using HOwn7.out, HB7.out, HLo2.out⟩
          case measure => (simp [intOf] <;> omega)
        · have b92 : (((s[k]'hkb).toNat : Int) == 92) = false := by
            rw [beq_eq_false_iff_ne]
            intro h
            apply h92
            rw [HC.out]
            apply UInt8.toNat_inj.1
            have : (s[k]'hkb).toNat = 92 := by omega
            rw [this]; rfl
          by_cases hsp : isSpec c = true
          · have hix : decide (0 ≤ Lib.indexByte [92, 46, 91, 93, 40, 41, 124, 42, 43, 63] c) = true := by
              have := indexByte_has [92, 46, 91, 93, 40, 41, 124, 42, 43, 63] _ hcl hsp
              rw [show Nat.toUInt8 c.toNat = c by simp] at this; simpa using this
            have hno := HLo.out.spec hkb (by rw [← HC.out]; exact h92) (by rw [← HC.out]; exact hsp)
            have HNo := Lib.hid hno; clear hno
            clear hsp h92
            go_wp2_with fail
            rw [← HC.out]
            refine (Try.strings_IndexByte _ _ _).mono ?_
            rintro q W2 ⟨rfl, rfl⟩
            go_wp2_with fail
            go_ret2
            exact ⟨by rw [litR_none (.inr HNo.out)]; rfl, HBel.out⟩
          · have hsp' : isSpec c = false := by simpa using hsp
            have hix : decide (0 ≤ Lib.indexByte [92, 46, 91, 93, 40, 41, 124, 42, 43, 63] c) = false := by
              have := indexByte_hasnt [92, 46, 91, 93, 40, 41, 124, 42, 43, 63] _ hcl hsp'
              rw [show Nat.toUInt8 c.toNat = c by simp] at this; simpa using this
            have hlo2 := HLo.out.plain hkb (by rw [← HC.out]; exact hsp')
            have HLo2 := Lib.hid hlo2; clear hlo2
            clear hsp hsp' h92
            go_wp2_with fail
            rw [← HC.out]
            refine (Try.strings_IndexByte _ _ _).mono ?_
            rintro q W2 ⟨rfl, rfl⟩
            go_wp2_with (at_builtin; refine wpList_append_lies _ rfl (.tmp 36) (.tmp 40) _ rfl W.heap.size 5 i0 (.int .u8 0) 1 1 Try.underlying29 hi0 hz0 hz1 hz2 rfl (by decide) (.slice ao o.length capn) o.length (u8s o) rfl (HOwn.out.alloc _) ⟨W2.heap.size, 0, none⟩ 1 1 [.int .u8 (((s[k]'hkb).toNat : Nat) : Int)] rfl rfl (World.news_of_block (cs := #[.int .u8 (((s[k]'hkb).toNat : Nat) : Int)]) (t := 5) (fr := (0, 0)) (blk_new _ _)) (by simp [Value.oneCell']) (by omega) (by unfold maxLen; omega) (by omega) (by simp <;> omega) (W2.heap.size + 1) (by simp) ?_; intro g7 cap7 w7 hown7 hgrow7 hat7 hlt7; have hb7 := (HBel.out.alloc hwsz (.cells #[.int .u8 (((s[k]'hkb).toNat : Nat) : Int)] 5)).grown hgrow7 (by simp <;> omega) (fun k hk => (HOwn.out.lt k hk).1); have hown7' : w7.ownsRow W.heap.size 5 1 (.slice (some ⟨g7, 0, none⟩) (o.length + 1) cap7) (o.length + 1) (u8s (o ++ [s[k]'hkb])) := (by rw [u8s_app]; exact hown7); have HOwn7 := Lib.hid hown7'; have HB7 := Lib.hid hb7; clear hown7 hown7' hgrow7 hat7 hb7)
            go_roundw
            case rel => exact ⟨k + 1, o ++ [s[k]'hkb], by omega, by go_num, by simpa using HOwn7.out, HB7.out, HLo2.out⟩
            case measure => (simp [intOf] <;> omega)
      · have hks : k = s.size := by omega
        have hsm := litR_some H0.out (by rw [hks] at HLo; exact HLo.out.done)
        have hcv := own_string HOwn.out rfl
        have HSm := Lib.hid hsm; clear hsm
        go_wp2_with fail
        go_ret2
        exact ⟨by rw [HSm.out]; rfl, HBel.out⟩
  · have hd : ((errOf s : Int) != 0) = true := by rw [bne_iff_ne]; omega
    have HNo := Lib.hid (litR_none (.inl h0)); clear h0
    go_wp2_with fail
    go_ret2
    exact ⟨by rw [HNo.out]; rfl, HB1.out⟩

set_option maxRecDepth 100000 in
set_option maxHeartbeats 4000000 in
theorem rliteral_calls (s : ByteArray) (hs : s.size ≤ 16384) (W : World) : Calls Try.prog 19 #[.string s] W (LitPost W s) := by
  obtain ⟨i0, hi0, hz0, hz1, hz2⟩ := info_parts infoU8
  have hz := zeroNode
  have hne := ncl_ne 0 nilS none256
  go_enter Try.func19, Try.ntmps19
  go_wp2_with fail
  refine (rcompile_calls s hs _).mono ?_
  rintro q W1 ⟨cs, rfl, hN1, hb1⟩
  have hst := storeNode_new W1 W1.heap.size rfl (ncl_length 0 nilS none256) hN1.len hN1.one
  have hlen1 := hN1.len
  have hb2 := hb1.alloc hb1.size (.cells cs.toArray 38)
  have HB1 := Lib.hid hb2; clear hb1 hb2 hN1
  by_cases h0 : errOf s = 0
  · have H0 := Lib.hid h0
    rw [h0]
    clear h0
    go_wp2_with fail
    generalize W1.alloc (.cells cs.toArray 38) = W2 at HB1 ⊢
    clear hz hne hst
    go_loopw [8, 7] (fun i v wr => ∃ (k : Nat) (o : List UInt8), k ≤ s.size ∧ i = .int .i64 (k : Int) ∧ wr.ownsRow W.heap.size 5 1 v o.length (u8s o) ∧ Below W.heap.size W wr ∧ Lo s k o) (fun i _ _ => s.size - (intOf i).toNat)
    case atStart => exact ⟨0, [], Nat.zero_le _, rfl, World.ownsRow_nil _ _ _ _, HB1.out, Lo.start s⟩
    case round =>
      obtain ⟨k, o, hk, rfl, hown, hbel, hlo⟩ := hrel
      clear HB1
      obtain ⟨ao, capn, rfl⟩ := own_any hown
      have hol := hlo.len
      have hwsz := hbel.size
      have HOwn := Lib.hid hown; clear hown
      have HBel := Lib.hid hbel; clear hbel
      have HLo := Lib.hid hlo; clear hlo
      by_cases hkb : k < s.size
      · obtain ⟨c, hc⟩ : ∃ c, c = s[k]'hkb := ⟨_, rfl⟩
        have hcl := UInt8.toNat_lt c
        have HC := Lib.hid hc; clear hc
        by_cases h92 : c = 92
        · have hk1 := HLo.out.more hkb (by rw [← HC.out]; exact h92) H0.out
          have hlo2 := HLo.out.esc hkb (by rw [← HC.out]; exact h92) hk1
          have HLo2 := Lib.hid hlo2; clear hlo2
          have hv : ((s[k]'hkb).toNat : Int) = 92 := by rw [← HC.out, h92]; rfl
          have hz0' : (0 : Int) ≤ (k : Int) + 1 := by omega
          have hzt : ((k : Int) + 1).toNat = k + 1 := by omega
          have hzl : (k : Int) + 1 < (s.size : Int) := by omega
          have H92 := Lib.hid h92; clear h92
          go_wp2_with (at_builtin; refine wpList_append_lies _ rfl (.tmp 36) (.tmp 38) _ rfl W.heap.size 5 i0 (.int .u8 0) 1 1 Try.underlying29 hi0 hz0 hz1 hz2 rfl (by decide) (.slice ao o.length capn) o.length (u8s o) rfl (HOwn.out.alloc _) ⟨wr.heap.size, 0, none⟩ 1 1 [.int .u8 (((s[k + 1]'hk1).toNat : Nat) : Int)] rfl rfl (World.news_of_block (cs := #[.int .u8 (((s[k + 1]'hk1).toNat : Nat) : Int)]) (t := 5) (fr := (0, 0)) (blk_new _ _)) (by simp [Value.oneCell']) (by omega) (by unfold maxLen; omega) (by omega) (by simp <;> omega) (wr.heap.size + 1) (by simp) ?_; intro g7 cap7 w7 hown7 hgrow7 hat7 hlt7; have hb7 := (HBel.out.alloc hwsz (.cells #[.int .u8 (((s[k + 1]'hk1).toNat : Nat) : Int)] 5)).grown hgrow7 (by simp <;> omega) (fun k hk => (HOwn.out.lt k hk).1); have hown7' : w7.ownsRow W.heap.size 5 1 (.slice (some ⟨g7, 0, none⟩) (o.length + 1) cap7) (o.length + 1) (u8s (o ++ [s[k + 1]'hk1])) := (by rw [u8s_app]; exact hown7); have HOwn7 := Lib.hid hown7'; have HB7 := Lib.hid hb7; clear hown7 hown7' hgrow7 hat7 hb7)
          go_roundw
          case rel => exact ⟨k + 2, o ++ [s[k + 1]'hk1], by omega, by go_num, by simpa using HOwn7.out, HB7.out, HLo2.out⟩
          case measure => (simp [intOf] <;> omega)
        · have b92 : (((s[k]'hkb).toNat : Int) == 92) = false := by
            rw [beq_eq_false_iff_ne]
            intro h
            apply h92
            rw [HC.out]
            apply UInt8.toNat_inj.1
            have : (s[k]'hkb).toNat = 92 := by omega
            rw [this]; rfl
          have hcs : special.contains (s[k]'hkb).toNat = isSpec c := by rw [HC.out]; rfl
          by_cases hsp : isSpec c = true
          · have hno := HLo.out.spec hkb (by rw [← HC.out]; exact h92) (by rw [← HC.out]; exact hsp)
            have HNo := Lib.hid hno; clear hno
            have HCs := Lib.hid (hcs.trans hsp)
            clear hsp h92 hcs
            go_wp2_with fail
            refine (special_calls _ _ HCs.out).mono ?_
            rintro q W3 ⟨rfl, rfl⟩
            go_wp2_with fail
            go_ret2
            exact ⟨by rw [litR_none (.inr HNo.out)]; rfl, HBel.out⟩
          · have hsp' : isSpec c = false := by simpa using hsp
            have hlo2 := HLo.out.plain hkb (by rw [← HC.out]; exact hsp')
            have HLo2 := Lib.hid hlo2; clear hlo2
            have HCs := Lib.hid (hcs.trans hsp')
            clear hsp hsp' h92 hcs
            go_wp2_with fail
            refine (special_calls _ _ HCs.out).mono ?_
            rintro q W3 ⟨rfl, rfl⟩
            go_wp2_with (at_builtin; refine wpList_append_lies _ rfl (.tmp 36) (.tmp 38) _ rfl W.heap.size 5 i0 (.int .u8 0) 1 1 Try.underlying29 hi0 hz0 hz1 hz2 rfl (by decide) (.slice ao o.length capn) o.length (u8s o) rfl (HOwn.out.alloc _) ⟨W3.heap.size, 0, none⟩ 1 1 [.int .u8 (((s[k]'hkb).toNat : Nat) : Int)] rfl rfl (World.news_of_block (cs := #[.int .u8 (((s[k]'hkb).toNat : Nat) : Int)]) (t := 5) (fr := (0, 0)) (blk_new _ _)) (by simp [Value.oneCell']) (by omega) (by unfold maxLen; omega) (by omega) (by simp <;> omega) (W3.heap.size + 1) (by simp) ?_; intro g7 cap7 w7 hown7 hgrow7 hat7 hlt7; have hb7 := (HBel.out.alloc hwsz (.cells #[.int .u8 (((s[k]'hkb).toNat : Nat) : Int)] 5)).grown hgrow7 (by simp <;> omega) (fun k hk => (HOwn.out.lt k hk).1); have hown7' : w7.ownsRow W.heap.size 5 1 (.slice (some ⟨g7, 0, none⟩) (o.length + 1) cap7) (o.length + 1) (u8s (o ++ [s[k]'hkb])) := (by rw [u8s_app]; exact hown7); have HOwn7 := Lib.hid hown7'; have HB7 := Lib.hid hb7; clear hown7 hown7' hgrow7 hat7 hb7)
            go_roundw
            case rel => exact ⟨k + 1, o ++ [s[k]'hkb], by omega, by go_num, by simpa using HOwn7.out, HB7.out, HLo2.out⟩
            case measure => (simp [intOf] <;> omega)
      · have hks : k = s.size := by omega
        have hsm := litR_some H0.out (by rw [hks] at HLo; exact HLo.out.done)
        have hcv := own_string HOwn.out rfl
        have HSm := Lib.hid hsm; clear hsm
        go_wp2_with fail
        go_ret2
        exact ⟨by rw [HSm.out]; rfl, HBel.out⟩
  · have hd : ((errOf s : Int) != 0) = true := by rw [bne_iff_ne]; omega
    have HNo := Lib.hid (litR_none (.inl h0)); clear h0
    go_wp2_with fail
    go_ret2
    exact ⟨by rw [HNo.out]; rfl, HB1.out⟩
set_option maxRecDepth 100000 in
set_option maxHeartbeats 4000000 in
theorem rescape_calls (s : ByteArray) (hs : s.size ≤ 100000) (W : World) : Calls Try.prog 20 #[.string s] W (EscPost W s) := by
  obtain ⟨i0, hi0, hz0, hz1, hz2⟩ := info_parts infoU8
  go_enter Try.func20, Try.ntmps20
  go_wp2_with fail
  go_loopw [4, 3] (fun i v wr => ∃ k : Nat, k ≤ s.size ∧ i = .int .i64 (k : Int) ∧ wr.ownsRow W.heap.size 5 1 v (escL (s.data.toList.take k)).length (u8s (escL (s.data.toList.take k))) ∧ Below W.heap.size W wr) (fun i _ _ => s.size - (intOf i).toNat)
  case atStart => exact ⟨0, Nat.zero_le _, rfl, World.ownsRow_nil _ _ _ _, Below.refl _ _⟩
  case round =>
    obtain ⟨k, hk, rfl, hown, hbel⟩ := hrel
    obtain ⟨ao, capn, rfl⟩ := own_any hown
    have hln := escL_length (s.data.toList.take k)
    have hlk : (s.data.toList.take k).length = k := by rw [List.length_take, Array.length_toList]; exact Nat.min_eq_left hk
    have hwsz := hbel.size
    have HOwn := Lib.hid hown; clear hown
    have HBel := Lib.hid hbel; clear hbel
    by_cases hkb : k < s.size
    · have htk : s.data.toList.take (k + 1) = s.data.toList.take k ++ [s[k]'hkb] := by
        rw [List.take_add_one, List.getElem?_eq_getElem (by rw [Array.length_toList]; exact hkb)]; rfl
      obtain ⟨c, hc⟩ : ∃ c, c = s[k]'hkb := ⟨_, rfl⟩
      have hcl := UInt8.toNat_lt c
      rw [← hc] at htk
      obtain ⟨l, hl⟩ : ∃ l, l = s.data.toList.take k := ⟨_, rfl⟩
      rw [← hl] at htk hln hlk
      rw [← hl] at HOwn
      rw [← hl]
      have HTk := Lib.hid htk; clear htk
      have HC := Lib.hid hc; clear hc
      have HL := Lib.hid hl; clear hl
      by_cases hsp : isSpec c = true
      · have HCs := Lib.hid (show special.contains c.toNat = true from hsp)
        have HSp := Lib.hid hsp; clear hsp
        have hout : escL (l ++ [c]) = escL l ++ [92, c] := by rw [escL_app]; simp [escL, HSp.out]
        have HOut := Lib.hid hout; clear hout
        go_wp2_with fail
        rw [← HC.out]
        refine (special_calls _ _ HCs.out).mono ?_
        rintro q W1 ⟨rfl, rfl⟩
        go_wp2_with (first | (at_builtin; refine wpList_append_lies _ rfl (.tmp 15) (.tmp 16) _ rfl W.heap.size 5 i0 (.int .u8 0) 1 1 Try.underlying29 hi0 hz0 hz1 hz2 rfl (by decide) (.slice ao (escL l).length capn) (escL l).length (u8s (escL l)) rfl (HOwn.out.alloc _) ⟨W1.heap.size, 0, none⟩ 1 1 [.int .u8 92] rfl rfl (World.news_of_block (cs := #[.int .u8 92]) (t := 5) (fr := (0, 0)) (blk_new _ _)) (by simp [Value.oneCell']) (by omega) (by unfold maxLen; omega) (by omega) (by simp <;> omega) (W1.heap.size + 1) (by simp) ?_; intro g6 cap6 w6 hown6 hgrow6 hat6 hlt6; have hb6 := (HBel.out.alloc hwsz (.cells #[.int .u8 92] 5)).grown hgrow6 (by simp <;> omega) (fun k hk => (HOwn.out.lt k hk).1); have hown6' : w6.ownsRow W.heap.size 5 1 (.slice (some ⟨g6, 0, none⟩) ((escL l).length + 1) cap6) ((escL l).length + 1) (u8s (escL l ++ [92])) := (by rw [u8s_app]; exact hown6); have HOwn6 := Lib.hid hown6'; have HB6 := Lib.hid hb6; have hsz6 := hb6.size; clear hown6 hown6' hgrow6 hat6 hb6) | (at_builtin; refine wpList_append_lies _ rfl (.tmp 18) (.tmp 22) _ rfl W.heap.size 5 i0 (.int .u8 0) 1 1 Try.underlying29 hi0 hz0 hz1 hz2 rfl (by decide) (.slice (some ⟨g6, 0, none⟩) ((escL l).length + 1) cap6) ((escL l).length + 1) (u8s (escL l ++ [92])) rfl (HOwn6.out.alloc _) ⟨w6.heap.size, 0, none⟩ 1 1 [.int .u8 ((s[k]'hkb).toNat : Int)] rfl rfl (World.news_of_block (cs := #[.int .u8 ((s[k]'hkb).toNat : Int)]) (t := 5) (fr := (0, 0)) (blk_new _ _)) (by simp [Value.oneCell']) (by omega) (by unfold maxLen; omega) (by omega) (by simp <;> omega) (w6.heap.size + 1) (by simp) ?_; intro g7 cap7 w7 hown7 hgrow7 hat7 hlt7; have hb7 := (HB6.out.alloc hsz6 (.cells #[.int .u8 ((s[k]'hkb).toNat : Int)] 5)).grown hgrow7 (by simp <;> omega) (fun k hk => (HOwn6.out.lt k hk).1); have hown7' : w7.ownsRow W.heap.size 5 1 (.slice (some ⟨g7, 0, none⟩) ((escL l).length + 1 + 1) cap7) ((escL l).length + 1 + 1) (u8s (escL l ++ [92] ++ [c])) := (by rw [u8s_app, HC.out]; exact hown7); have HOwn7 := Lib.hid hown7'; have HB7 := Lib.hid hb7; clear hown7 hown7' hgrow7 hat7 hb7))
        go_roundw
        case rel => exact ⟨k + 1, by omega, by go_num, by rw [HTk.out, HOut.out]; simpa using HOwn7.out, HB7.out⟩
        case measure => (simp [intOf] <;> omega)
      · have hsp' : isSpec c = false := by simpa using hsp
        have HCs := Lib.hid (show special.contains c.toNat = false from hsp')
        have hout : escL (l ++ [c]) = escL l ++ [c] := by rw [escL_app]; simp [escL, hsp']
        have HOut := Lib.hid hout; clear hout
        clear hsp hsp'
        go_wp2_with fail
        rw [← HC.out]
        refine (special_calls _ _ HCs.out).mono ?_
        rintro q W1 ⟨rfl, rfl⟩
        go_wp2_with (at_builtin; refine wpList_append_lies _ rfl (.tmp 18) (.tmp 22) _ rfl W.heap.size 5 i0 (.int .u8 0) 1 1 Try.underlying29 hi0 hz0 hz1 hz2 rfl (by decide) (.slice ao ((escL l).length) capn) ((escL l).length) (u8s (escL l)) rfl (HOwn.out.alloc _) ⟨W1.heap.size, 0, none⟩ 1 1 [.int .u8 ((s[k]'hkb).toNat : Int)] rfl rfl (World.news_of_block (cs := #[.int .u8 ((s[k]'hkb).toNat : Int)]) (t := 5) (fr := (0, 0)) (blk_new _ _)) (by simp [Value.oneCell']) (by omega) (by unfold maxLen; omega) (by omega) (by simp <;> omega) (W1.heap.size + 1) (by simp) ?_; intro g7 cap7 w7 hown7 hgrow7 hat7 hlt7; have hb7 := (HBel.out.alloc hwsz (.cells #[.int .u8 ((s[k]'hkb).toNat : Int)] 5)).grown hgrow7 (by simp <;> omega) (fun k hk => (HOwn.out.lt k hk).1); have hown7' : w7.ownsRow W.heap.size 5 1 (.slice (some ⟨g7, 0, none⟩) ((escL l).length + 1) cap7) ((escL l).length + 1) (u8s (escL l ++ [c])) := (by rw [u8s_app, HC.out]; exact hown7); have HOwn7 := Lib.hid hown7'; have HB7 := Lib.hid hb7; clear hown7 hown7' hgrow7 hat7 hb7)
        go_roundw
        case rel => exact ⟨k + 1, by omega, by go_num, by rw [HTk.out, HOut.out]; simpa using HOwn7.out, HB7.out⟩
        case measure => (simp [intOf] <;> omega)
    · have hks : k = s.size := by omega
      have hl : s.data.toList.take k = s.data.toList := List.take_of_length_le (by rw [hks, Array.length_toList]; exact Nat.le_refl _)
      rw [hl] at HOwn
      rw [hl]
      have hcv := own_string HOwn.out rfl
      go_wp2_with fail
      go_ret
      exact ⟨rfl, HBel.out⟩
end Go.Proofs.Ytokcffkffcfolaa.Rh
