/-
  Text of the value 2.5: the digits in their row.
-/
import Derived.Test.YtdmmmdnfofoefaaGreatDoorFlT
import Derived.Lib.Itoa
namespace Go.Proofs.YtdmmmdnfofoefaaGreatDoor.Fl
open Go Go.RowKit Go.Sort Go.Lib
set_option maxHeartbeats 4000000
set_option maxRecDepth 100000

theorem log10_52 (w : World) : Calls Tryz.prog 62 #[.int .i64 52] w fun e w' => e = .returned (.int .i64 15) ∧ w = w' := by
  go_enter Tryz.func62, Tryz.ntmps62
  go_wp2
  go_ret
  exact ⟨rfl, rfl⟩
theorem bool2i_yes (w : World) : Calls Tryz.prog 85 #[.bool true] w fun e w' => e = .returned (.int .i64 1) ∧ w = w' := by
  go_enter Tryz.func85, Tryz.ntmps85
  go_wp2
  go_ret
  exact ⟨rfl, rfl⟩
theorem len64_calls (x n : Nat) (hx : x < 18446744073709551616) (hn : Lib.bitLen x = n) (w : World) : Calls Tryz.prog 58 #[.int .u64 (x : Int)] w fun e w' => e = .returned (.int .i64 (n : Int)) ∧ w = w' :=
  (Tryz.bits_Len64 x w (by omega) (by omega)).mono fun e w' ⟨he, hw⟩ => ⟨by rw [he, ← hn]; rfl, hw.symm⟩
theorem len64_a (w : World) : Calls Tryz.prog 58 #[.int .u64 2500000000000000] w fun e w' => e = .returned (.int .i64 52) ∧ w = w' := len64_calls 2500000000000000 52 (by decide) (by decide +kernel) w
theorem len64_b (w : World) : Calls Tryz.prog 58 #[.int .u64 5629499534213120] w fun e w' => e = .returned (.int .i64 53) ∧ w = w' := len64_calls 5629499534213120 53 (by decide) (by decide +kernel) w
theorem numDigits_calls (w : World) (ht : w.cell? ⟨4, 15, none⟩ = some (.int .u64 1000000000000000)) : Calls Tryz.prog 61 #[.int .u64 2500000000000000] w fun e w' => e = .returned (.int .i64 16) ∧ w = w' := by
  go_enter Tryz.func61, Tryz.ntmps61
  go_wp2_with (first | ((with_reducible refine (len64_a _).mono ?_); rintro e w' ⟨rfl, rfl⟩) | ((with_reducible refine (log10_52 _).mono ?_); rintro e w' ⟨rfl, rfl⟩) | ((with_reducible refine (bool2i_yes _).mono ?_); rintro e w' ⟨rfl, rfl⟩))
  go_ret
  exact ⟨rfl, rfl⟩

theorem below_putRow {α : Type} [Inhabited α] (enc : α → Value) {B blk : Nat} (w : World) (d : Array α) (h : B ≤ blk) : Below B w (putRow enc w blk 0 d) := by
  refine ⟨rfl, rfl, rfl, by simp, fun k hk => ?_⟩
  simp only [putRow, mapBlock, Array.getElem?_modify]
  rw [if_neg (by omega)]
def encB : UInt8 → Value := fun b => .int .u8 (b.toNat : Int)
/-- The row behind the digits' writer: 25 and zeros. -/
theorem digits_row {v' : Nat} {dk : Array UInt8} (h : FmtInv 16 2500000000000000 0 v' dk) (t : Nat) (ht : t < 16) : dk[t]! = if t = 0 then 50 else if t = 1 then 53 else 48 := by
  rw [h.done t (by omega) ht]
  have : ∀ t, t < 16 → dg 2500000000000000 (16 - 1 - t) = if t = 0 then 50 else if t = 1 then 53 else 48 := by decide +kernel
  exact this t ht
structure Row25 (w : World) (b : Nat) : Prop where
  c0 : w.cell? ⟨b, 0, none⟩ = some (.int .u8 50)
  c1 : w.cell? ⟨b, 1, none⟩ = some (.int .u8 53)
theorem fmt_calls (b B : Nat) (w : World) (hB : B ≤ b) (hH : ∀ j, j < 16 → w.cell? ⟨b, j, none⟩ = some (.int .u8 0) ∧ w.frozen? ⟨b, j, none⟩ = false) :
    Calls Tryz.prog 84 #[.slice (some ⟨b, 0, none⟩) 16 32, .int .u64 2500000000000000] w fun e w' => e = .returned (.tuple #[]) ∧ (∀ t, t < 16 → w'.cell? ⟨b, t, none⟩ = some (.int .u8 (if t = 0 then 50 else if t = 1 then 53 else 48 : Nat))) ∧ Below B w w' := by
  have hH0 : Holds encB w b 0 (Array.replicate 16 0) := by
    intro j hj
    rw [Array.size_replicate] at hj
    have := hH j hj
    rw [Nat.zero_add]
    refine ⟨this.1.trans ?_, this.2⟩
    rw [show (Array.replicate 16 (0 : UInt8))[j]! = 0 by rw [getElem!_pos _ _ (by rw [Array.size_replicate]; exact hj)]; simp]
    rfl
  have hf := Tryz.internal_strconv_formatBase10 b 0 32 2500000000000000 (Array.replicate 16 0) w hH0 (by rw [Array.size_replicate]; decide) (by decide) (by rw [Array.size_replicate]; decide)
  rw [Array.size_replicate, show ((2500000000000000 : Nat) : Int) = 2500000000000000 from rfl] at hf
  refine hf.mono ?_
  rintro e w' ⟨rfl, n, v', dk, rfl, hdk⟩
  have hsz : dk.size = 16 := hdk.size
  refine ⟨rfl, ?_, (below_putRow encB w dk hB).trans ⟨rfl, rfl, rfl, Nat.le_refl _, fun _ _ => rfl⟩⟩
  intro t ht
  rw [World.cell?_drewN]
  have := cell?_putRow encB w b 0 _ dk hH0 (by rw [hsz, Array.size_replicate]) t (by omega)
  rw [Nat.zero_add] at this
  refine this.trans ?_
  rw [digits_row hdk t ht]
  unfold encB
  split
  · rfl
  · split <;> rfl
theorem setDigits_calls (b B : Nat) (w : World) (hB : B ≤ b) (hH : ∀ j, j < 16 → w.cell? ⟨b, j, none⟩ = some (.int .u8 0) ∧ w.frozen? ⟨b, j, none⟩ = false) :
    Calls Tryz.prog 60 #[.slice (some ⟨b, 0, none⟩) 32 32, .int .u64 2500000000000000, .int .i64 (-15), .int .i64 16] w fun e w' => e = .returned (.tuple #[.int .i64 1, .int .i64 2]) ∧ Row25 w' b ∧ Below B w w' := by
  have HF := Lib.hid (fmt_calls b B w hB hH)
  clear hB hH
  go_enter Tryz.func60, Tryz.ntmps60
  go_wp2_with fail
  refine (HF.out).mono ?_
  rintro e W ⟨rfl, hcell, hbel⟩
  have HC := Lib.hid hcell
  have HB := Lib.hid hbel
  clear hcell hbel
  go_wp2
  go_loop [3] (fun i => ∃ k : Nat, 2 ≤ k ∧ k ≤ 16 ∧ i = .int .i64 k) (fun i => (RowKit.intOf i).toNat)
  case atStart => exact ⟨16, by decide, by decide, rfl⟩
  case round =>
    obtain ⟨k, h2, h16, rfl⟩ := hrel
    by_cases hk : k = 2
    · subst hk
      have hc : W.cell? ⟨b, 1, none⟩ = some (.int .u8 53) := HC.out 1 (by decide)
      go_wp2
      go_ret2
      exact ⟨rfl, ⟨HC.out 0 (by decide), hc⟩, HB.out⟩
    · have hc := HC.out (k - 1) (by omega)
      rw [if_neg (by omega), if_neg (by omega)] at hc
      obtain ⟨m, rfl⟩ : ∃ m, k = m + 1 := ⟨k - 1, by omega⟩
      rw [Nat.add_sub_cancel] at hc
      go_wp2
      go_round
      case rel => exact ⟨m, by omega, by omega, by go_num⟩
      case measure => simp [RowKit.intOf]
end Go.Proofs.YtdmmmdnfofoefaaGreatDoor.Fl
