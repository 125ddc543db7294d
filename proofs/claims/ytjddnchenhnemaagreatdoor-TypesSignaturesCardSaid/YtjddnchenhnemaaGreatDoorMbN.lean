/-
  Names of labels: what package labels and the document say of a text.
  Names of labels: the walks of both Names.
  Texts in quotes: rows of bytes of one's own; plain facts.
  Texts in quotes: the walk of package labels' Quote.
  Texts in quotes: the walk of the document's Quote.
-/
import Derived.Test.YtjddnchenhnemaaGreatDoorBaA
namespace Go.Proofs.YtjddnchenhnemaaGreatDoor.Ma
open Go Go.RowKit Go.Proofs.YtjddnchenhnemaaGreatDoor.Rg

def letterB (c : Nat) : Bool := decide (65 ≤ c ∧ c ≤ 90) || decide (97 ≤ c ∧ c ≤ 122) || decide (c = 95)
def digitB (c : Nat) : Bool := decide (48 ≤ c ∧ c ≤ 57)
def wordB (c : Nat) : Bool := letterB c || digitB c
def plainB (c : Nat) : Bool := decide (32 ≤ c ∧ c < 127)
/-- Is a text a label's name? -/
def nameB (s : ByteArray) : Bool := decide (0 < s.size ∧ s.size ≤ 64) && letterB (byteAt s 0) && (s.data.toList.all fun c => wordB c.toNat)

theorem letter_iff (c : Nat) : letterB c = true ↔ (65 ≤ c ∧ c ≤ 90) ∨ (97 ≤ c ∧ c ≤ 122) ∨ c = 95 := by simp [letterB, or_assoc]
theorem letter_no (c : Nat) : letterB c = false ↔ ¬ ((65 ≤ c ∧ c ≤ 90) ∨ (97 ≤ c ∧ c ≤ 122) ∨ c = 95) := by rw [← letter_iff, Bool.not_eq_true]
theorem digit_iff (c : Nat) : digitB c = true ↔ 48 ≤ c ∧ c ≤ 57 := by simp [digitB]
theorem plain_iff (c : Nat) : plainB c = true ↔ 32 ≤ c ∧ c < 127 := by simp [plainB]
theorem ret_bool {a b : Bool} (h : a = true ↔ b = true) : Ending.returned (.bool a) = .returned (.bool b) := by rw [Bool.eq_iff_iff.2 h]
set_option maxRecDepth 100000 in
theorem letter_calls (c : Nat) (hc : c < 256) (W : World) : Calls Tryz.prog 60 #[.int .u8 (c : Int)] W fun e W' => e = .returned (.bool (letterB c)) ∧ W = W' := by
  have h255 : (c : Int) < 256 := by omega
  go_enter Tryz.func60, Tryz.ntmps60
  go_wp2
  all_goals
    go_ret
    exact ⟨ret_bool (by rw [letter_iff]; simp <;> omega), rfl⟩
set_option maxRecDepth 100000 in
theorem digit_calls (c : Nat) (hc : c < 256) (W : World) : Calls Tryz.prog 62 #[.int .u8 (c : Int)] W fun e W' => e = .returned (.bool (digitB c)) ∧ W = W' := by
  have h255 : (c : Int) < 256 := by omega
  go_enter Tryz.func62, Tryz.ntmps62
  go_wp2
  all_goals
    go_ret
    exact ⟨ret_bool (by rw [digit_iff]; simp <;> omega), rfl⟩
set_option maxRecDepth 100000 in
theorem plain_calls (c : Nat) (hc : c < 256) (W : World) : Calls Tryz.prog 82 #[.int .u8 (c : Int)] W fun e W' => e = .returned (.bool (plainB c)) ∧ W = W' := by
  have h255 : (c : Int) < 256 := by omega
  go_enter Tryz.func82, Tryz.ntmps82
  go_wp2
  all_goals
    go_ret
    exact ⟨ret_bool (by rw [plain_iff]; simp <;> omega), rfl⟩
end Go.Proofs.YtjddnchenhnemaaGreatDoor.Ma
namespace Go.Proofs.YtjddnchenhnemaaGreatDoor.Ma
open Go Go.RowKit Go.Proofs.YtjddnchenhnemaaGreatDoor.Rg

theorem take_byte (s : ByteArray) (k : Nat) (h : k < s.size) : s.data.toList.take (k + 1) = s.data.toList.take k ++ [s[k]'h] := by
  rw [List.take_add_one, List.getElem?_eq_getElem (by rw [Array.length_toList]; exact h)]; rfl
theorem all_take (s : ByteArray) (k : Nat) (h : k < s.size) (p : UInt8 → Bool) : (s.data.toList.take (k + 1)).all p = ((s.data.toList.take k).all p && p (s[k]'h)) := by
  rw [take_byte s k h]; simp
theorem all_false (s : ByteArray) (k : Nat) (h : k < s.size) (p : UInt8 → Bool) (hp : p (s[k]'h) = false) : s.data.toList.all p = false := by
  rw [List.all_eq_false]
  exact ⟨s[k]'h, by
    have : s[k]'h ∈ s.data.toList := by
      rw [List.mem_iff_getElem]
      exact ⟨k, by rw [Array.length_toList]; exact h, rfl⟩
    exact this, by rw [hp]; simp⟩
theorem nameB_of {s : ByteArray} (h0 : 0 < s.size) (h64 : s.size ≤ 64) (hl : letterB (s[0]'h0).toNat = true) : nameB s = s.data.toList.all fun c => wordB c.toNat := by
  rw [nameB, byteAt, dif_pos h0, hl]; simp [h0, h64]
set_option maxRecDepth 100000 in
set_option maxHeartbeats 4000000 in
theorem name_calls (s : ByteArray) (hs : s.size ≤ maxLen) (x : Bool) (hx : nameB s = x) (W : World) : Calls Tryz.prog 72 #[.string s] W fun e W' => e = .returned (.bool x) ∧ W = W' := by
  unfold maxLen at hs
  have HX := Lib.hid hx; clear hx
  by_cases h0 : s.size = 0
  · obtain rfl : s = ⟨#[]⟩ := by
      obtain ⟨⟨l⟩⟩ := s
      have : l = [] := List.eq_nil_of_length_eq_zero h0
      rw [this]
    clear h0
    go_enter Tryz.func72, Tryz.ntmps72
    go_wp2
    go_ret
    exact ⟨by rw [← HX.out]; rfl, rfl⟩
  have h0' : 0 < s.size := by omega
  have he : s.toList.isEmpty = false := by
    rw [ByteArray.toList_eq]
    cases hq : s.data.toList with
    | nil => exact absurd (by have := congrArg List.length hq; rw [Array.length_toList] at this; exact this) h0
    | cons a l => rfl
  have he2 : (s.toList == []) = false := by
    cases hq : s.toList with
    | nil => rw [hq] at he; cases he
    | cons a l => rfl
  have he3 : ¬ s.toList = [] := by intro h; rw [h] at he; cases he
  by_cases h64 : 64 < s.size
  · go_enter Tryz.func72, Tryz.ntmps72
    go_wp2
    go_ret
    exact ⟨by rw [← HX.out, nameB]; simp <;> omega, rfl⟩
  by_cases hl : letterB (s[0]'h0').toNat = true
  · have hN := nameB_of h0' (by omega) hl
    rw [HX.out] at hN
    have HN := Lib.hid hN; clear hN
    have HL := Lib.hid hl; clear hl
    go_enter Tryz.func72, Tryz.ntmps72
    go_wp2_with fail
    (with_reducible refine (letter_calls _ (UInt8.toNat_lt _) _).mono ?_)
    rintro e W1 ⟨rfl, rfl⟩
    rw [HL.out]
    go_wp2_with fail
    go_loopw [19] (fun i wr => ∃ k : Nat, k ≤ s.size ∧ i = .int .i64 (k : Int) ∧ (s.data.toList.take k).all (fun c => wordB c.toNat) = true ∧ wr = W) (fun i _ => s.size - (intOf i).toNat)
    case atStart => exact ⟨0, by omega, rfl, rfl, rfl⟩
    case round =>
      obtain ⟨k, hk, rfl, hall, rfl⟩ := hrel
      have HAll := Lib.hid hall; clear hall
      by_cases hkb : k < s.size
      · have ha := all_take s k hkb (fun c => wordB c.toNat)
        by_cases hlk : letterB (s[k]'hkb).toNat = true
        · have hall' : (s.data.toList.take (k + 1)).all (fun c => wordB c.toNat) = true := by rw [ha, HAll.out, wordB, hlk]; rfl
          have HAll' := Lib.hid hall'; clear hall' ha
          have HLk := Lib.hid hlk; clear hlk
          go_wp2_with fail
          (with_reducible refine (letter_calls _ (UInt8.toNat_lt _) _).mono ?_)
          rintro e W1 ⟨rfl, rfl⟩
          rw [HLk.out]
          go_wp2_with fail
          go_roundw
          case rel => exact ⟨k + 1, by omega, by go_num, HAll'.out, trivial⟩
          case measure => (simp [intOf] <;> omega)
        · have hlk' : letterB (s[k]'hkb).toNat = false := by simpa using hlk
          clear hlk
          by_cases hdk : digitB (s[k]'hkb).toNat = true
          · have hall' : (s.data.toList.take (k + 1)).all (fun c => wordB c.toNat) = true := by rw [ha, HAll.out, wordB, hdk]; simp
            have HAll' := Lib.hid hall'; clear hall' ha
            have HLk := Lib.hid hlk'; clear hlk'
            have HDk := Lib.hid hdk; clear hdk
            go_wp2_with fail
            (with_reducible refine (letter_calls _ (UInt8.toNat_lt _) _).mono ?_)
            rintro e W1 ⟨rfl, rfl⟩
            rw [HLk.out]
            go_wp2_with fail
            (with_reducible refine (digit_calls _ (UInt8.toNat_lt _) _).mono ?_)
            rintro e W1 ⟨rfl, rfl⟩
            rw [HDk.out]
            go_wp2_with fail
            go_roundw
            case rel => exact ⟨k + 1, by omega, by go_num, HAll'.out, trivial⟩
            case measure => (simp [intOf] <;> omega)
          · have hdk' : digitB (s[k]'hkb).toNat = false := by simpa using hdk
            have hfin : x = false := by rw [HN.out]; exact all_false s k hkb _ (by rw [wordB, hlk', hdk']; rfl)
            have HF := Lib.hid hfin; clear hfin hdk ha
            have HLk := Lib.hid hlk'; clear hlk'
            have HDk := Lib.hid hdk'; clear hdk'
            go_wp2_with fail
            (with_reducible refine (letter_calls _ (UInt8.toNat_lt _) _).mono ?_)
            rintro e W1 ⟨rfl, rfl⟩
            rw [HLk.out]
            go_wp2_with fail
            (with_reducible refine (digit_calls _ (UInt8.toNat_lt _) _).mono ?_)
            rintro e W1 ⟨rfl, rfl⟩
            rw [HDk.out]
            go_wp2_with fail
            go_ret
            exact ⟨by rw [HF.out]; rfl, rfl⟩
      · have hfin : x = true := by
          rw [HN.out, ← HAll.out, List.take_of_length_le (by rw [Array.length_toList]; exact Nat.le_of_not_lt hkb)]
        have HF := Lib.hid hfin; clear hfin
        go_wp2_with fail
        go_ret
        exact ⟨by rw [HF.out]; rfl, rfl⟩
  · have hl' : letterB (s[0]'h0').toNat = false := by simpa using hl
    have hfin : x = false := by rw [← HX.out, nameB, byteAt, dif_pos h0', hl']; simp
    have HF := Lib.hid hfin; clear hfin hl
    have HL := Lib.hid hl'; clear hl'
    go_enter Tryz.func72, Tryz.ntmps72
    go_wp2_with fail
    (with_reducible refine (letter_calls _ (UInt8.toNat_lt _) _).mono ?_)
    rintro e W1 ⟨rfl, rfl⟩
    rw [HL.out]
    go_wp2_with fail
    go_ret
    exact ⟨by rw [HF.out]; rfl, rfl⟩
end Go.Proofs.YtjddnchenhnemaaGreatDoor.Ma
