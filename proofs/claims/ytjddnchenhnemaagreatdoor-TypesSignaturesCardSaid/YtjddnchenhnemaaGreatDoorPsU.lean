/-
  The tokens of the two texts, one behind the other.
-/
import Derived.Test.YtjddnchenhnemaaGreatDoorPsT
namespace Go.Proofs.YtjddnchenhnemaaGreatDoor.Ps
open Go Go.RowKit Go.Proofs.YtjddnchenhnemaaGreatDoor.QT Go.Proofs.YtjddnchenhnemaaGreatDoor.Rg Go.Proofs.YtjddnchenhnemaaGreatDoor.Ma Go.Proofs.YtjddnchenhnemaaGreatDoor.Ir Go.Proofs.YtjddnchenhnemaaGreatDoor.Le
set_option maxHeartbeats 4000000
set_option maxRecDepth 100000
theorem sA_e0 : sA.extract 0 4 = ⟨#[114, 97, 116, 101]⟩ := by decide +kernel
theorem sA_w0 (W : World) : Calls Tryz.prog 61 #[.string sA, .int .i64 ((0 : Nat) : Int)] W (RetI (4 : Nat) W) :=
  word_calls sA 0 4 (by decide) (by decide) (by decide) (fun k h1 h2 => (by decide +kernel : ∀ k, k < 4 → 0 ≤ k → wdB (byteAt sA k) = true) k h2 h1) (fun _ => by decide +kernel) W
theorem sA_n0 (W : World) : Calls Tryz.prog 43 #[.string sA, .int .i64 ((0 : Nat) : Int)] W (NextPost W ⟨1, 0, ⟨#[114, 97, 116, 101]⟩, 0, 0⟩ 4) := by
  have h := next_word sA 0 0 4 114 (by decide) (by decide) (fun W => pass0 sA 0 114 (by decide) ⟨by decide, by decide, by decide +kernel⟩ (by decide) (by decide) W) ⟨by decide, by decide, by decide +kernel⟩ (by decide) (by decide) (by decide) sA_w0 W
  rw [sA_e0] at h
  exact h
theorem sA_e1 : sA.extract 4 5 = ⟨#[40]⟩ := by decide +kernel
theorem sA_n1 (W : World) : Calls Tryz.prog 43 #[.string sA, .int .i64 ((4 : Nat) : Int)] W (NextPost W ⟨5, 4, ⟨#[40]⟩, 0, 0⟩ 5) := by
  have h := next_mark sA 4 4 40 1 (by decide) (by decide) (fun W => pass0 sA 4 40 (by decide) ⟨by decide, by decide, by decide +kernel⟩ (by decide) (by decide) W) ⟨by decide, by decide, by decide +kernel⟩ (by decide) (by decide) (by decide) (by decide) (by decide) (by decide) (fun W => mark1 sA 4 40 (by decide) ⟨by decide, by decide, by decide +kernel⟩ (by decide +kernel) (fun _ => by decide +kernel) W) W
  rw [show (4 + 1 : Nat) = 5 from rfl, sA_e1] at h
  exact h
theorem sA_e2 : sA.extract 5 6 = ⟨#[109]⟩ := by decide +kernel
theorem sA_w2 (W : World) : Calls Tryz.prog 61 #[.string sA, .int .i64 ((5 : Nat) : Int)] W (RetI (6 : Nat) W) :=
  word_calls sA 5 6 (by decide) (by decide) (by decide) (fun k h1 h2 => (by decide +kernel : ∀ k, k < 6 → 5 ≤ k → wdB (byteAt sA k) = true) k h2 h1) (fun _ => by decide +kernel) W
theorem sA_n2 (W : World) : Calls Tryz.prog 43 #[.string sA, .int .i64 ((5 : Nat) : Int)] W (NextPost W ⟨1, 5, ⟨#[109]⟩, 0, 0⟩ 6) := by
  have h := next_word sA 5 5 6 109 (by decide) (by decide) (fun W => pass0 sA 5 109 (by decide) ⟨by decide, by decide, by decide +kernel⟩ (by decide) (by decide) W) ⟨by decide, by decide, by decide +kernel⟩ (by decide) (by decide) (by decide) sA_w2 W
  rw [sA_e2] at h
  exact h
theorem sA_e3 : sA.extract 6 7 = ⟨#[91]⟩ := by decide +kernel
theorem sA_n3 (W : World) : Calls Tryz.prog 43 #[.string sA, .int .i64 ((6 : Nat) : Int)] W (NextPost W ⟨5, 6, ⟨#[91]⟩, 0, 0⟩ 7) := by
  have h := next_mark sA 6 6 91 1 (by decide) (by decide) (fun W => pass0 sA 6 91 (by decide) ⟨by decide, by decide, by decide +kernel⟩ (by decide) (by decide) W) ⟨by decide, by decide, by decide +kernel⟩ (by decide) (by decide) (by decide) (by decide) (by decide) (by decide) (fun W => mark1 sA 6 91 (by decide) ⟨by decide, by decide, by decide +kernel⟩ (by decide +kernel) (fun _ => by decide +kernel) W) W
  rw [show (6 + 1 : Nat) = 7 from rfl, sA_e3] at h
  exact h
theorem sA_n4 (W : World) : Calls Tryz.prog 43 #[.string sA, .int .i64 ((7 : Nat) : Int)] W (NextPost W ⟨3, 7, s5m, 0, 300000⟩ 9) :=
  next_num (fun _ => True) (fun _ _ _ _ => trivial) sA 7 7 9 53 ⟨3, 7, s5m, 0, 300000⟩ (by decide) (by decide) (fun W => pass0 sA 7 53 (by decide) ⟨by decide, by decide, by decide +kernel⟩ (by decide) (by decide) W) ⟨by decide, by decide, by decide +kernel⟩ (by decide) (by decide) (fun W => stretch_A W) (fun W _ => numberA W) W trivial
theorem sA_e5 : sA.extract 9 10 = ⟨#[93]⟩ := by decide +kernel
theorem sA_n5 (W : World) : Calls Tryz.prog 43 #[.string sA, .int .i64 ((9 : Nat) : Int)] W (NextPost W ⟨5, 9, ⟨#[93]⟩, 0, 0⟩ 10) := by
  have h := next_mark sA 9 9 93 1 (by decide) (by decide) (fun W => pass0 sA 9 93 (by decide) ⟨by decide, by decide, by decide +kernel⟩ (by decide) (by decide) W) ⟨by decide, by decide, by decide +kernel⟩ (by decide) (by decide) (by decide) (by decide) (by decide) (by decide) (fun W => mark1 sA 9 93 (by decide) ⟨by decide, by decide, by decide +kernel⟩ (by decide +kernel) (fun _ => by decide +kernel) W) W
  rw [show (9 + 1 : Nat) = 10 from rfl, sA_e5] at h
  exact h
theorem sA_e6 : sA.extract 10 11 = ⟨#[41]⟩ := by decide +kernel
theorem sA_n6 (W : World) : Calls Tryz.prog 43 #[.string sA, .int .i64 ((10 : Nat) : Int)] W (NextPost W ⟨5, 10, ⟨#[41]⟩, 0, 0⟩ 11) := by
  have h := next_mark sA 10 10 41 1 (by decide) (by decide) (fun W => pass0 sA 10 41 (by decide) ⟨by decide, by decide, by decide +kernel⟩ (by decide) (by decide) W) ⟨by decide, by decide, by decide +kernel⟩ (by decide) (by decide) (by decide) (by decide) (by decide) (by decide) (fun W => mark1 sA 10 41 (by decide) ⟨by decide, by decide, by decide +kernel⟩ (by decide +kernel) (fun _ => by decide +kernel) W) W
  rw [show (10 + 1 : Nat) = 11 from rfl, sA_e6] at h
  exact h
theorem sA_end (W : World) : Calls Tryz.prog 43 #[.string sA, .int .i64 ((11 : Nat) : Int)] W (NextPost W ⟨0, sA.size, ⟨#[]⟩, 0, 0⟩ sA.size) :=
  next_end sA 11 (by decide) (by decide) (fun W => pass_end sA 11 (by decide) rfl W) W
def sA_ts : List Tk := [⟨1, 0, ⟨#[114, 97, 116, 101]⟩, 0, 0⟩, ⟨5, 4, ⟨#[40]⟩, 0, 0⟩, ⟨1, 5, ⟨#[109]⟩, 0, 0⟩, ⟨5, 6, ⟨#[91]⟩, 0, 0⟩, ⟨3, 7, s5m, 0, 300000⟩, ⟨5, 9, ⟨#[93]⟩, 0, 0⟩, ⟨5, 10, ⟨#[41]⟩, 0, 0⟩]
theorem sA_toks : Toks (fun _ => True) sA 0 sA_ts := ⟨by decide, by decide, 4, by decide, by decide, fun W _ => sA_n0 W, ⟨by decide, by decide, 5, by decide, by decide, fun W _ => sA_n1 W, ⟨by decide, by decide, 6, by decide, by decide, fun W _ => sA_n2 W, ⟨by decide, by decide, 7, by decide, by decide, fun W _ => sA_n3 W, ⟨by decide, by decide, 9, by decide, by decide, fun W _ => sA_n4 W, ⟨by decide, by decide, 10, by decide, by decide, fun W _ => sA_n5 W, ⟨by decide, by decide, 11, by decide, by decide, fun W _ => sA_n6 W, ⟨by decide, _, _, rfl, fun W _ => sA_end W⟩⟩⟩⟩⟩⟩⟩⟩
theorem sB_n0 (W : World) (hT : Tabs W) : Calls Tryz.prog 43 #[.string sB, .int .i64 ((0 : Nat) : Int)] W (NextPost W ⟨2, 0, s1, 4607182418800017408, 0⟩ 1) :=
  next_num Tabs Tabs.below sB 0 0 1 49 ⟨2, 0, s1, 4607182418800017408, 0⟩ (by decide) (by decide) (fun W => pass0 sB 0 49 (by decide) ⟨by decide, by decide, by decide +kernel⟩ (by decide) (by decide) W) ⟨by decide, by decide, by decide +kernel⟩ (by decide) (by decide) (fun W => stretch_B W) (fun W h => numberB W h) W hT
theorem sB_e1 : sB.extract 2 3 = ⟨#[43]⟩ := by decide +kernel
theorem sB_n1 (W : World) : Calls Tryz.prog 43 #[.string sB, .int .i64 ((1 : Nat) : Int)] W (NextPost W ⟨5, 2, ⟨#[43]⟩, 0, 0⟩ 3) := by
  have h := next_mark sB 1 2 43 1 (by decide) (by decide) (fun W => pass1 sB 1 43 32 (by decide) ⟨by decide, by decide, by decide +kernel⟩ (by decide) ⟨by decide, by decide, by decide +kernel⟩ (by decide) (by decide) W) ⟨by decide, by decide, by decide +kernel⟩ (by decide) (by decide) (by decide) (by decide) (by decide) (by decide) (fun W => mark1 sB 2 43 (by decide) ⟨by decide, by decide, by decide +kernel⟩ (by decide +kernel) (fun _ => by decide +kernel) W) W
  rw [show (2 + 1 : Nat) = 3 from rfl, sB_e1] at h
  exact h
theorem sB_e2 : sB.extract 4 8 = ⟨#[114, 97, 116, 101]⟩ := by decide +kernel
theorem sB_w2 (W : World) : Calls Tryz.prog 61 #[.string sB, .int .i64 ((4 : Nat) : Int)] W (RetI (8 : Nat) W) :=
  word_calls sB 4 8 (by decide) (by decide) (by decide) (fun k h1 h2 => (by decide +kernel : ∀ k, k < 8 → 4 ≤ k → wdB (byteAt sB k) = true) k h2 h1) (fun _ => by decide +kernel) W
theorem sB_n2 (W : World) : Calls Tryz.prog 43 #[.string sB, .int .i64 ((3 : Nat) : Int)] W (NextPost W ⟨1, 4, ⟨#[114, 97, 116, 101]⟩, 0, 0⟩ 8) := by
  have h := next_word sB 3 4 8 114 (by decide) (by decide) (fun W => pass1 sB 3 114 32 (by decide) ⟨by decide, by decide, by decide +kernel⟩ (by decide) ⟨by decide, by decide, by decide +kernel⟩ (by decide) (by decide) W) ⟨by decide, by decide, by decide +kernel⟩ (by decide) (by decide) (by decide) sB_w2 W
  rw [sB_e2] at h
  exact h
theorem sB_e3 : sB.extract 8 9 = ⟨#[40]⟩ := by decide +kernel
theorem sB_n3 (W : World) : Calls Tryz.prog 43 #[.string sB, .int .i64 ((8 : Nat) : Int)] W (NextPost W ⟨5, 8, ⟨#[40]⟩, 0, 0⟩ 9) := by
  have h := next_mark sB 8 8 40 1 (by decide) (by decide) (fun W => pass0 sB 8 40 (by decide) ⟨by decide, by decide, by decide +kernel⟩ (by decide) (by decide) W) ⟨by decide, by decide, by decide +kernel⟩ (by decide) (by decide) (by decide) (by decide) (by decide) (by decide) (fun W => mark1 sB 8 40 (by decide) ⟨by decide, by decide, by decide +kernel⟩ (by decide +kernel) (fun _ => by decide +kernel) W) W
  rw [show (8 + 1 : Nat) = 9 from rfl, sB_e3] at h
  exact h
theorem sB_e4 : sB.extract 9 10 = ⟨#[109]⟩ := by decide +kernel
theorem sB_w4 (W : World) : Calls Tryz.prog 61 #[.string sB, .int .i64 ((9 : Nat) : Int)] W (RetI (10 : Nat) W) :=
  word_calls sB 9 10 (by decide) (by decide) (by decide) (fun k h1 h2 => (by decide +kernel : ∀ k, k < 10 → 9 ≤ k → wdB (byteAt sB k) = true) k h2 h1) (fun _ => by decide +kernel) W
theorem sB_n4 (W : World) : Calls Tryz.prog 43 #[.string sB, .int .i64 ((9 : Nat) : Int)] W (NextPost W ⟨1, 9, ⟨#[109]⟩, 0, 0⟩ 10) := by
  have h := next_word sB 9 9 10 109 (by decide) (by decide) (fun W => pass0 sB 9 109 (by decide) ⟨by decide, by decide, by decide +kernel⟩ (by decide) (by decide) W) ⟨by decide, by decide, by decide +kernel⟩ (by decide) (by decide) (by decide) sB_w4 W
  rw [sB_e4] at h
  exact h
theorem sB_e5 : sB.extract 10 11 = ⟨#[41]⟩ := by decide +kernel
theorem sB_n5 (W : World) : Calls Tryz.prog 43 #[.string sB, .int .i64 ((10 : Nat) : Int)] W (NextPost W ⟨5, 10, ⟨#[41]⟩, 0, 0⟩ 11) := by
  have h := next_mark sB 10 10 41 1 (by decide) (by decide) (fun W => pass0 sB 10 41 (by decide) ⟨by decide, by decide, by decide +kernel⟩ (by decide) (by decide) W) ⟨by decide, by decide, by decide +kernel⟩ (by decide) (by decide) (by decide) (by decide) (by decide) (by decide) (fun W => mark1 sB 10 41 (by decide) ⟨by decide, by decide, by decide +kernel⟩ (by decide +kernel) (fun _ => by decide +kernel) W) W
  rw [show (10 + 1 : Nat) = 11 from rfl, sB_e5] at h
  exact h
theorem sB_end (W : World) : Calls Tryz.prog 43 #[.string sB, .int .i64 ((11 : Nat) : Int)] W (NextPost W ⟨0, sB.size, ⟨#[]⟩, 0, 0⟩ sB.size) :=
  next_end sB 11 (by decide) (by decide) (fun W => pass_end sB 11 (by decide) rfl W) W
def sB_ts : List Tk := [⟨2, 0, s1, 4607182418800017408, 0⟩, ⟨5, 2, ⟨#[43]⟩, 0, 0⟩, ⟨1, 4, ⟨#[114, 97, 116, 101]⟩, 0, 0⟩, ⟨5, 8, ⟨#[40]⟩, 0, 0⟩, ⟨1, 9, ⟨#[109]⟩, 0, 0⟩, ⟨5, 10, ⟨#[41]⟩, 0, 0⟩]
theorem sB_toks : Toks Tabs sB 0 sB_ts := ⟨by decide, by decide, 1, by decide, by decide, fun W h => sB_n0 W h, ⟨by decide, by decide, 3, by decide, by decide, fun W _ => sB_n1 W, ⟨by decide, by decide, 8, by decide, by decide, fun W _ => sB_n2 W, ⟨by decide, by decide, 9, by decide, by decide, fun W _ => sB_n3 W, ⟨by decide, by decide, 10, by decide, by decide, fun W _ => sB_n4 W, ⟨by decide, by decide, 11, by decide, by decide, fun W _ => sB_n5 W, ⟨by decide, _, _, rfl, fun W _ => sB_end W⟩⟩⟩⟩⟩⟩⟩
end Go.Proofs.YtjddnchenhnemaaGreatDoor.Ps
