/-
  The methods States and Escape.
-/
import Derived.Test.YtokcffkffcfolaaRgV
import Derived.Laws.IdiomStrings
namespace Go.Proofs.Ytokcffkffcfolaa.Rg
open Go Go.RowKit

theorem states_calls (p : Nat) (P : List Inst) (W : World) (hpr : IsProg W p P) : Calls Try.prog 17 #[.pointer (some ⟨p, 0, none⟩)] W fun e W' => e = .returned (.int .i64 P.length) ∧ W' = W := by
  obtain ⟨gp, cp, hc0, _⟩ := hpr.cells
  clear hpr
  go_enter Try.func17, Try.ntmps17
  go_wp2
  go_ret
  exact ⟨rfl, rfl⟩

def isSpec (c : UInt8) : Bool := special.contains c.toNat
def escL : List UInt8 → List UInt8
  | [] => []
  | c :: l => if isSpec c then 92 :: c :: escL l else c :: escL l
theorem escL_app : ∀ (a b : List UInt8), escL (a ++ b) = escL a ++ escL b
  | [], b => rfl
  | c :: a, b => by rw [List.cons_append, escL, escL, escL_app a b]; split <;> rfl
theorem escL_length : ∀ (a : List UInt8), (escL a).length ≤ 2 * a.length
  | [] => Nat.le_refl _
  | c :: a => by
    have := escL_length a
    rw [escL]
    split <;> simp <;> omega
def u8s (l : List UInt8) : List Value := l.map fun b => .int .u8 (b.toNat : Int)
theorem u8s_length (l : List UInt8) : (u8s l).length = l.length := by simp [u8s]
theorem u8s_app (a b : List UInt8) : u8s (a ++ b) = u8s a ++ u8s b := by simp [u8s]
theorem infoU8 : (Try.prog.info? 5).map (fun i => (i.zero, i.size, i.bytes)) = some (some (.int .u8 0), 1, 1) := by kernel_rfl
/-- A row of bytes of one's own, as a string. -/
theorem own_string {w : World} {base n cap : Nat} {a : Option Addr} {l : List UInt8} (h : w.ownsRow base 5 1 (.slice a n cap) n (u8s l)) (hn : n = l.length) :
    (convert 29 9 (.slice a n cap)).run Try.prog w = .ok (.string ⟨l.toArray⟩) w := by
  subst hn
  by_cases h0 : 0 < l.length
  · obtain ⟨g, cap', hv, hg, hgl⟩ := h.form h0
    simp only [Value.slice.injEq, true_and] at hv
    obtain ⟨rfl, rfl⟩ := hv
    refine run_convert_bytes_back w _ _ 5 _ _ l Try.underlying29 Try.underlying5 Try.underlying9 (fun j hj => ?_)
    rw [show ((⟨g, 0, none⟩ : Addr).add j) = ⟨g, j, none⟩ by unfold Addr.add; simp <;> omega, h.cellAt j (by omega)]
    simp [u8s, hj]
  · have hl : l = [] := List.eq_nil_of_length_eq_zero (by omega)
    subst hl
    rcases a with _ | a
    · rw [run_convert_bytes_string w _ _ 5 _ _ _ Try.underlying29 Try.underlying5 Try.underlying9]
      rfl
    · refine run_convert_bytes_back w _ _ 5 a _ [] Try.underlying29 Try.underlying5 Try.underlying9 (fun j hj => ?_)
      simp at hj
theorem u8s_cell {w : World} {base n : Nat} {v : Value} {l : List UInt8} (h : w.ownsRow base 5 1 v n (u8s l)) : n = l.length := by
  have := h.1
  rw [u8s_length] at this; omega
def EscPost (W : World) (s : ByteArray) (e : Ending) (W' : World) : Prop := e = .returned (.string ⟨(escL s.data.toList).toArray⟩) ∧ Below W.heap.size W W'

set_option maxRecDepth 100000 in
set_option maxHeartbeats 4000000 in
theorem escape_calls (s : ByteArray) (hs : s.size ≤ 100000) (W : World) : Calls Try.prog 14 #[.string s] W (EscPost W s) := by
  obtain ⟨i0, hi0, hz0, hz1, hz2⟩ := info_parts infoU8
  go_enter Try.func14, Try.ntmps14
  go_wp2_with fail
  go_loopw [7, 3] (fun i v wr => ∃ k : Nat, k ≤ s.size ∧ i = .int .i64 (k : Int) ∧ wr.ownsRow W.heap.size 5 1 v (escL (s.data.toList.take k)).length (u8s (escL (s.data.toList.take k))) ∧ Below W.heap.size W wr) (fun i _ _ => s.size - (intOf i).toNat)
  case atStart => exact ⟨0, Nat.zero_le _, rfl, World.ownsRow_nil _ _ _ _, Below.refl _ _⟩
  case round =>
    obtain ⟨k, hk, rfl, hown, hbel⟩ := hrel
    obtain ⟨ao, capn, rfl⟩ := own_any hown
    have hln := escL_length (s.data.toList.take k)
    have hlk : (s.data.toList.take k).length = k := by rw [List.length_take, Array.length_toList]; exact Nat.min_eq_left hk
    have hwsz := hbel.size
    have HOwn := Lib.hid hown; clear hown
    have HBel := Lib.hid hbel; clear hbel
    by_cases hkb : k < s.size
    · have htk : s.data.toList.take (k + 1) = s.data.toList.take k ++ [s[k]'hkb] := by
        rw [List.take_add_one, List.getElem?_eq_getElem (by rw [Array.length_toList]; exact hkb)]; rfl
      obtain ⟨c, hc⟩ : ∃ c, c = s[k]'hkb := ⟨_, rfl⟩
      have hcl := UInt8.toNat_lt c
      rw [← hc] at htk
      obtain ⟨l, hl⟩ : ∃ l, l = s.data.toList.take k := ⟨_, rfl⟩
      rw [← hl] at htk hln hlk
      rw [← hl] at HOwn
      rw [← hl]
      have HTk := Lib.hid htk; clear htk
      have HC := Lib.hid hc; clear hc
      have HL := Lib.hid hl; clear hl
      by_cases hsp : isSpec c = true
      · have hix : decide (0 ≤ Lib.indexByte [92, 46, 91, 93, 40, 41, 124, 42, 43, 63] c) = true := by
          have := indexByte_has [92, 46, 91, 93, 40, 41, 124, 42, 43, 63] _ hcl hsp
          rw [show Nat.toUInt8 c.toNat = c by simp] at this; simpa using this
        have HSp := Lib.hid hsp; clear hsp
        have hout : escL (l ++ [c]) = escL l ++ [92, c] := by rw [escL_app]; simp [escL, HSp.out]
        have HOut := Lib.hid hout; clear hout
        go_wp2_with fail
        rw [← HC.out]
        refine (Try.strings_IndexByte _ _ _).mono ?_
        rintro q W1 ⟨rfl, rfl⟩
        go_wp2_with (first | (at_builtin; refine wpList_append_lies _ rfl (.tmp 15) (.tmp 16) _ rfl W.heap.size 5 i0 (.int .u8 0) 1 1 Try.underlying29 hi0 hz0 hz1 hz2 rfl (by decide) (.slice ao (escL l).length capn) (escL l).length (u8s (escL l)) rfl (HOwn.out.alloc _) ⟨W1.heap.size, 0, none⟩ 1 1 [.int .u8 92] rfl rfl (World.news_of_block (cs := #[.int .u8 92]) (t := 5) (fr := (0, 0)) (blk_new _ _)) (by simp [Value.oneCell']) (by omega) (by unfold maxLen; omega) (by omega) (by simp <;> omega) (W1.heap.size + 1) (by simp) ?_; intro g6 cap6 w6 hown6 hgrow6 hat6 hlt6; have hb6 := (HBel.out.alloc hwsz (.cells #[.int .u8 92] 5)).grown hgrow6 (by simp <;> omega) (fun k hk => (HOwn.out.lt k hk).1); have hown6' : w6.ownsRow W.heap.size 5 1 (.slice (some ⟨g6, 0, none⟩) ((escL l).length + 1) cap6) ((escL l).length + 1) (u8s (escL l ++ [92])) := (by rw [u8s_app]; exact hown6); have HOwn6 := Lib.hid hown6'; have HB6 := Lib.hid hb6; have hsz6 := hb6.size; clear hown6 hown6' hgrow6 hat6 hb6) | (at_builtin; refine wpList_append_lies _ rfl (.tmp 18) (.tmp 22) _ rfl W.heap.size 5 i0 (.int .u8 0) 1 1 Try.underlying29 hi0 hz0 hz1 hz2 rfl (by decide) (.slice (some ⟨g6, 0, none⟩) ((escL l).length + 1) cap6) ((escL l).length + 1) (u8s (escL l ++ [92])) rfl (HOwn6.out.alloc _) ⟨w6.heap.size, 0, none⟩ 1 1 [.int .u8 ((s[k]'hkb).toNat : Int)] rfl rfl (World.news_of_block (cs := #[.int .u8 ((s[k]'hkb).toNat : Int)]) (t := 5) (fr := (0, 0)) (blk_new _ _)) (by simp [Value.oneCell']) (by omega) (by unfold maxLen; omega) (by omega) (by simp <;> omega) (w6.heap.size + 1) (by simp) ?_; intro g7 cap7 w7 hown7 hgrow7 hat7 hlt7; have hb7 := (HB6.out.alloc hsz6 (.cells #[.int .u8 ((s[k]'hkb).toNat : Int)] 5)).grown hgrow7 (by simp <;> omega) (fun k hk => (HOwn6.out.lt k hk).1); have hown7' : w7.ownsRow W.heap.size 5 1 (.slice (some ⟨g7, 0, none⟩) ((escL l).length + 1 + 1) cap7) ((escL l).length + 1 + 1) (u8s (escL l ++ [92] ++ [c])) := (by rw [u8s_app, HC.out]; exact hown7); have HOwn7 := Lib.hid hown7'; have HB7 := Lib.hid hb7; clear hown7 hown7' hgrow7 hat7 hb7))
        go_roundw
        case rel => exact ⟨k + 1, by omega, by go_num, by rw [HTk.out, HOut.out]; simpa using HOwn7.out, HB7.out⟩
        case measure => (simp [intOf] <;> omega)
      · have hsp' : isSpec c = false := by simpa using hsp
        have hix : decide (0 ≤ Lib.indexByte [92, 46, 91, 93, 40, 41, 124, 42, 43, 63] c) = false := by
          have := indexByte_hasnt [92, 46, 91, 93, 40, 41, 124, 42, 43, 63] _ hcl hsp'
          rw [show Nat.toUInt8 c.toNat = c by simp] at this; simpa using this
        have hout : escL (l ++ [c]) = escL l ++ [c] := by rw [escL_app]; simp [escL, hsp']
        have HOut := Lib.hid hout; clear hout
        clear hsp hsp'
        go_wp2_with fail
        rw [← HC.out]
        refine (Try.strings_IndexByte _ _ _).mono ?_
        rintro q W1 ⟨rfl, rfl⟩
        go_wp2_with (at_builtin; refine wpList_append_lies _ rfl (.tmp 18) (.tmp 22) _ rfl W.heap.size 5 i0 (.int .u8 0) 1 1 Try.underlying29 hi0 hz0 hz1 hz2 rfl (by decide) (.slice ao ((escL l).length) capn) ((escL l).length) (u8s (escL l)) rfl (HOwn.out.alloc _) ⟨W1.heap.size, 0, none⟩ 1 1 [.int .u8 ((s[k]'hkb).toNat : Int)] rfl rfl (World.news_of_block (cs := #[.int .u8 ((s[k]'hkb).toNat : Int)]) (t := 5) (fr := (0, 0)) (blk_new _ _)) (by simp [Value.oneCell']) (by omega) (by unfold maxLen; omega) (by omega) (by simp <;> omega) (W1.heap.size + 1) (by simp) ?_; intro g7 cap7 w7 hown7 hgrow7 hat7 hlt7; have hb7 := (HBel.out.alloc hwsz (.cells #[.int .u8 ((s[k]'hkb).toNat : Int)] 5)).grown hgrow7 (by simp <;> omega) (fun k hk => (HOwn.out.lt k hk).1); have hown7' : w7.ownsRow W.heap.size 5 1 (.slice (some ⟨g7, 0, none⟩) ((escL l).length + 1) cap7) ((escL l).length + 1) (u8s (escL l ++ [c])) := (by rw [u8s_app, HC.out]; exact hown7); have HOwn7 := Lib.hid hown7'; have HB7 := Lib.hid hb7; clear hown7 hown7' hgrow7 hat7 hb7)
        go_roundw
        case rel => exact ⟨k + 1, by omega, by go_num, by rw [HTk.out, HOut.out]; simpa using HOwn7.out, HB7.out⟩
        case measure => (simp [intOf] <;> omega)
    · have hks : k = s.size := by omega
      have hl : s.data.toList.take k = s.data.toList := List.take_of_length_le (by rw [hks, Array.length_toList]; exact Nat.le_refl _)
      rw [hl] at HOwn
      rw [hl]
      have hcv := own_string HOwn.out rfl
      go_wp2_with fail
      go_ret
      exact ⟨rfl, HBel.out⟩
end Go.Proofs.Ytokcffkffcfolaa.Rg
