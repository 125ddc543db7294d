/-
  The lexer's tokens at two texts.
-/
import Derived.Test.YtdmmmdnfofoefaaDoorLxN
namespace Go.Proofs.YtdmmmdnfofoefaaDoor.Lx
open Go Go.RowKit Go.Proofs.YtdmmmdnfofoefaaDoor.QT Go.Proofs.YtdmmmdnfofoefaaDoor.Rg
set_option maxHeartbeats 4000000
set_option maxRecDepth 100000

theorem cell_lt {w : World} {a : Addr} {v : Value} (h : w.cell? a = some v) : a.block < w.heap.size := by
  apply Classical.byContradiction
  intro hge
  have hnone : w.heap[a.block]? = none := by rw [Array.getElem?_eq_none]; omega
  simp only [World.cell?, hnone] at h
  cases h
theorem Tabs.below {w w' : World} (h : Tabs w) (hb : Below w.heap.size w w') : Tabs w' := by
  obtain ⟨h1, h2, a, cap, h3, h4⟩ := h
  exact ⟨(hb.cell (p := ⟨_, _, none⟩) (cell_lt h1)).trans h1, (hb.cell (p := ⟨_, _, none⟩) (cell_lt h2)).trans h2, a, cap, (hb.cell (p := ⟨_, _, none⟩) (cell_lt h3)).trans h3, (hb.cell (cell_lt h4)).trans h4⟩
def tok (k a : Int) (s : ByteArray) (v : Nat) (n : Int) : Value := .agg #[.int .i64 k, .int .i64 a, .string s, .float .f64 v, .int .i64 n]
def Gives (v : Value) (W : World) (e : Ending) (w' : World) : Prop := e = .returned v ∧ Below W.heap.size W w'
def tRate : ByteArray := ⟨#[114, 97, 116, 101]⟩
theorem tRate_size : tRate.size = 4 := rfl
theorem tRate_list : tRate.toList = [114, 97, 116, 101] := by decide +kernel
theorem tRate_0 (h : 0 < tRate.size) : (tRate[0]'h).toNat = 114 := rfl
theorem tRate_1 (h : 1 < tRate.size) : (tRate[1]'h).toNat = 97 := rfl
theorem tRate_2 (h : 2 < tRate.size) : (tRate[2]'h).toNat = 116 := rfl
theorem tRate_3 (h : 3 < tRate.size) : (tRate[3]'h).toNat = 101 := rfl
def tPar : ByteArray := ⟨#[40]⟩
theorem tPar_size : tPar.size = 1 := rfl
theorem tPar_list : tPar.toList = [40] := by decide +kernel
theorem tPar_0 (h : 0 < tPar.size) : (tPar[0]'h).toNat = 40 := rfl
def tA : ByteArray := ⟨#[97]⟩
theorem tA_size : tA.size = 1 := rfl
theorem tA_list : tA.toList = [97] := by decide +kernel
theorem tA_0 (h : 0 < tA.size) : (tA[0]'h).toNat = 97 := rfl
def tBra : ByteArray := ⟨#[91]⟩
theorem tBra_size : tBra.size = 1 := rfl
theorem tBra_list : tBra.toList = [91] := by decide +kernel
theorem tBra_0 (h : 0 < tBra.size) : (tBra[0]'h).toNat = 91 := rfl
def tKet : ByteArray := ⟨#[93]⟩
theorem tKet_size : tKet.size = 1 := rfl
theorem tKet_list : tKet.toList = [93] := by decide +kernel
theorem tKet_0 (h : 0 < tKet.size) : (tKet[0]'h).toNat = 93 := rfl
def tRap : ByteArray := ⟨#[41]⟩
theorem tRap_size : tRap.size = 1 := rfl
theorem tRap_list : tRap.toList = [41] := by decide +kernel
theorem tRap_0 (h : 0 < tRap.size) : (tRap[0]'h).toNat = 41 := rfl
def tGe : ByteArray := ⟨#[62, 61]⟩
theorem tGe_size : tGe.size = 2 := rfl
theorem tGe_list : tGe.toList = [62, 61] := by decide +kernel
theorem tGe_0 (h : 0 < tGe.size) : (tGe[0]'h).toNat = 62 := rfl
theorem tGe_1 (h : 1 < tGe.size) : (tGe[1]'h).toNat = 61 := rfl
theorem e1 : sL.extract 0 4 = tRate := by decide +kernel
theorem e2 : sL.extract 4 5 = tPar := by decide +kernel
theorem e3 : sL.extract 5 6 = tA := by decide +kernel
theorem e4 : sL.extract 6 7 = tBra := by decide +kernel
theorem e5 : sL.extract 7 9 = s5m := by decide +kernel
theorem e6 : sL.extract 9 10 = tKet := by decide +kernel
theorem e7 : sL.extract 10 11 = tRap := by decide +kernel
theorem e8 : sL.extract 12 14 = tGe := by decide +kernel
theorem e9 : sL.extract 15 20 = sN := by decide +kernel
theorem f1 : sM.extract 0 1 = tA := by decide +kernel
theorem run_store_float (a : Addr) (n : Nat) (m : Mode) (w : World) : (store a (.float .f64 n) m).run Tryd.prog w = stored Tryd.prog w a (.float .f64 n) m := run_store Tryd.prog w a _ m rfl
theorem set5 (W : World) (b : Nat) (v0 v1 v2 v3 v4 : Value) (o : Obj) (hb : b < W.heap.size) (h0 : (W.cell? ⟨b, 0, none⟩).isSome = true) (h1 : (W.cell? ⟨b, 1, none⟩).isSome = true) (h2 : (W.cell? ⟨b, 2, none⟩).isSome = true) (h3 : (W.cell? ⟨b, 3, none⟩).isSome = true) (h4 : (W.cell? ⟨b, 4, none⟩).isSome = true) :
    ((((((W.setCell ⟨b, 0, none⟩ v0).setCell ⟨b, 1, none⟩ v1).setCell ⟨b, 2, none⟩ v2).setCell ⟨b, 3, none⟩ v3).setCell ⟨b, 4, none⟩ v4).alloc o).cell? ⟨b, 0, none⟩ = some v0 ∧
    ((((((W.setCell ⟨b, 0, none⟩ v0).setCell ⟨b, 1, none⟩ v1).setCell ⟨b, 2, none⟩ v2).setCell ⟨b, 3, none⟩ v3).setCell ⟨b, 4, none⟩ v4).alloc o).cell? ⟨b, 1, none⟩ = some v1 ∧
    ((((((W.setCell ⟨b, 0, none⟩ v0).setCell ⟨b, 1, none⟩ v1).setCell ⟨b, 2, none⟩ v2).setCell ⟨b, 3, none⟩ v3).setCell ⟨b, 4, none⟩ v4).alloc o).cell? ⟨b, 2, none⟩ = some v2 ∧
    ((((((W.setCell ⟨b, 0, none⟩ v0).setCell ⟨b, 1, none⟩ v1).setCell ⟨b, 2, none⟩ v2).setCell ⟨b, 3, none⟩ v3).setCell ⟨b, 4, none⟩ v4).alloc o).cell? ⟨b, 3, none⟩ = some v3 ∧
    ((((((W.setCell ⟨b, 0, none⟩ v0).setCell ⟨b, 1, none⟩ v1).setCell ⟨b, 2, none⟩ v2).setCell ⟨b, 3, none⟩ v3).setCell ⟨b, 4, none⟩ v4).alloc o).cell? ⟨b, 4, none⟩ = some v4 := by
  refine ⟨?_, ?_, ?_, ?_, ?_⟩ <;> go_simp
theorem number_7 (w : World) : Calls Tryd.prog 13 #[.string sL, .int .i64 7, .int .i64 9] w (Gives (.tuple #[tok 3 7 s5m 0 300000, .bool true]) w) := by
  have z := sL_size
  have x := e5
  have hst := run_store_float
  go_enter Tryd.func13, Tryd.ntmps13
  go_wp2_with ((with_reducible refine (duration_5m _).mono ?_); rintro e w' ⟨rfl, rfl⟩)
  exact bodyPost_ret (v := .tuple #[tok 3 7 s5m 0 300000, .bool true]) (by simp [results, Tryd.results13, go_sem, tok]) rfl ⟨rfl, ((Below.refl _ _).alloc (Nat.le_refl _) _).alloc (by simp) _⟩
theorem number_15 (w : World) (hT : Tabs w) : Calls Tryd.prog 13 #[.string sL, .int .i64 15, .int .i64 20] w (Gives (.tuple #[tok 2 15 sN 4654311885213007872 0, .bool true]) w) := by
  have z := sL_size
  have x := e9
  have hst := run_store_float
  have HT := Lib.hid hT
  clear hT
  go_enter Tryd.func13, Tryd.ntmps13
  go_wp2_with (first | ((with_reducible refine (duration_n _).mono ?_); rintro e w' ⟨rfl, rfl⟩) | fail)
  refine (parse_n _ (HT.out.below (((Below.refl _ _).alloc (Nat.le_refl _) _).alloc (by simp) _))).mono ?_
  rintro e w' ⟨rfl, rfl⟩
  go_wp2_with fail
  exact bodyPost_ret (v := .tuple #[tok 2 15 sN 4654311885213007872 0, .bool true]) (by simp [results, Tryd.results13, go_sem, tok]) rfl ⟨rfl, ((Below.refl _ _).alloc (Nat.le_refl _) _).alloc (by simp) _⟩
theorem next_sL_0 (w : World) : Calls Tryd.prog 7 #[.string sL, .int .i64 0] w (Gives (.tuple #[tok 1 0 tRate 0 0, .int .i64 4, .int .i64 0]) w) := by
  have z := sL_size
  have b := sL_0
  have b' := sL_1
  have x := e1
  have hst := run_store_float
  go_enter Tryd.func7, Tryd.ntmps7
  go_wp2_with (first | ((with_reducible refine (pass_sL_0 _).mono ?_); rintro e w' ⟨rfl, rfl⟩) | ((with_reducible refine (word_sL_0 _).mono ?_); rintro e w' ⟨rfl, rfl⟩) | (go_at_call 9; go_in) | (go_at_call 11; go_in) | fail)
  exact bodyPost_ret (v := .tuple #[tok 1 0 tRate 0 0, .int .i64 4, .int .i64 0]) (by simp [results, Tryd.results7, go_sem, tok]) rfl ⟨rfl, (Below.refl _ _).alloc (Nat.le_refl _) _⟩
theorem next_sL_4 (w : World) : Calls Tryd.prog 7 #[.string sL, .int .i64 4] w (Gives (.tuple #[tok 5 4 tPar 0 0, .int .i64 5, .int .i64 0]) w) := by
  have z := sL_size
  have b := sL_4
  have b' := sL_5
  have x := e2
  have hst := run_store_float
  go_enter Tryd.func7, Tryd.ntmps7
  go_wp2_with (first | ((with_reducible refine (pass_sL_4 _).mono ?_); rintro e w' ⟨rfl, rfl⟩) | ((with_reducible refine (mark_sL_4 _).mono ?_); rintro e w' ⟨rfl, rfl⟩) | (go_at_call 9; go_in) | (go_at_call 11; go_in) | fail)
  exact bodyPost_ret (v := .tuple #[tok 5 4 tPar 0 0, .int .i64 5, .int .i64 0]) (by simp [results, Tryd.results7, go_sem, tok]) rfl ⟨rfl, (Below.refl _ _).alloc (Nat.le_refl _) _⟩
theorem next_sL_5 (w : World) : Calls Tryd.prog 7 #[.string sL, .int .i64 5] w (Gives (.tuple #[tok 1 5 tA 0 0, .int .i64 6, .int .i64 0]) w) := by
  have z := sL_size
  have b := sL_5
  have b' := sL_6
  have x := e3
  have hst := run_store_float
  go_enter Tryd.func7, Tryd.ntmps7
  go_wp2_with (first | ((with_reducible refine (pass_sL_5 _).mono ?_); rintro e w' ⟨rfl, rfl⟩) | ((with_reducible refine (word_sL_5 _).mono ?_); rintro e w' ⟨rfl, rfl⟩) | (go_at_call 9; go_in) | (go_at_call 11; go_in) | fail)
  exact bodyPost_ret (v := .tuple #[tok 1 5 tA 0 0, .int .i64 6, .int .i64 0]) (by simp [results, Tryd.results7, go_sem, tok]) rfl ⟨rfl, (Below.refl _ _).alloc (Nat.le_refl _) _⟩
theorem next_sL_6 (w : World) : Calls Tryd.prog 7 #[.string sL, .int .i64 6] w (Gives (.tuple #[tok 5 6 tBra 0 0, .int .i64 7, .int .i64 0]) w) := by
  have z := sL_size
  have b := sL_6
  have b' := sL_7
  have x := e4
  have hst := run_store_float
  go_enter Tryd.func7, Tryd.ntmps7
  go_wp2_with (first | ((with_reducible refine (pass_sL_6 _).mono ?_); rintro e w' ⟨rfl, rfl⟩) | ((with_reducible refine (mark_sL_6 _).mono ?_); rintro e w' ⟨rfl, rfl⟩) | (go_at_call 9; go_in) | (go_at_call 11; go_in) | fail)
  exact bodyPost_ret (v := .tuple #[tok 5 6 tBra 0 0, .int .i64 7, .int .i64 0]) (by simp [results, Tryd.results7, go_sem, tok]) rfl ⟨rfl, (Below.refl _ _).alloc (Nat.le_refl _) _⟩
theorem next_sL_7 (w : World) : Calls Tryd.prog 7 #[.string sL, .int .i64 7] w (Gives (.tuple #[tok 3 7 s5m 0 300000, .int .i64 9, .int .i64 0]) w) := by
  have z := sL_size
  have b := sL_7
  have b' := sL_8
  have x := e5
  have hst := run_store_float
  go_enter Tryd.func7, Tryd.ntmps7
  go_wp2_with (first | ((with_reducible refine (pass_sL_7 _).mono ?_); rintro e w' ⟨rfl, rfl⟩) | ((with_reducible refine (stretch_sL_7 _).mono ?_); rintro e w' ⟨rfl, rfl⟩) | (go_at_call 9; go_in) | (go_at_call 11; go_in) | fail)
  refine (number_7 _).mono ?_
  rintro e W2 ⟨rfl, hb⟩
  have hsz := hb.size
  have hlt : w.heap.size < W2.heap.size := by simp at hsz; omega
  have hne : ¬ w.heap.size = W2.heap.size := by omega
  have hne' : ¬ W2.heap.size = w.heap.size := by omega
  have hcell : ∀ j v, #[Value.int .i64 0, .int .i64 0, .string ⟨#[]⟩, .float .f64 0, .int .i64 0][j]? = some v → W2.cell? ⟨w.heap.size, j, none⟩ = some v := by
    intro j v hv
    rw [hb.cell (p := ⟨_, _, none⟩) (by simp)]
    exact (blk_cell (blk_new w _) j).trans hv
  have hfz : ∀ j, W2.frozen? ⟨w.heap.size, j, none⟩ = false := by
    intro j
    rw [hb.frozen (p := ⟨_, _, none⟩) (by simp)]
    exact blk_frozen (blk_new w _) j
  have c0 : W2.cell? ⟨w.heap.size, 0, none⟩ = some (.int .i64 0) := hcell 0 _ rfl
  have c1 : W2.cell? ⟨w.heap.size, 1, none⟩ = some (.int .i64 0) := hcell 1 _ rfl
  have c2 : W2.cell? ⟨w.heap.size, 2, none⟩ = some (.string ⟨#[]⟩) := hcell 2 _ rfl
  have c3 : W2.cell? ⟨w.heap.size, 3, none⟩ = some (.float .f64 0) := hcell 3 _ rfl
  have c4 : W2.cell? ⟨w.heap.size, 4, none⟩ = some (.int .i64 0) := hcell 4 _ rfl
  have f0 := hfz 0
  have f1 := hfz 1
  have f2 := hfz 2
  have f3 := hfz 3
  have f4 := hfz 4
  have HB := Lib.hid (((Below.refl w.heap.size w).alloc (Nat.le_refl _) _).trans (hb.mono (by simp)))
  clear hb hsz hcell hfz
  unfold tok
  go_wp2_with fail
  obtain ⟨k0, k1, k2, k3, k4⟩ := set5 W2 w.heap.size (.int .i64 3) (.int .i64 7) (.string s5m) (.float .f64 0) (.int .i64 300000) (.cells #[.int .i64 3, .int .i64 7, .string s5m, .float .f64 0, .int .i64 300000] 26) hlt (by rw [c0]; rfl) (by rw [c1]; rfl) (by rw [c2]; rfl) (by rw [c3]; rfl) (by rw [c4]; rfl)
  refine bodyPost_ret (fn := Tryd.f7) (v := .tuple #[tok 3 7 s5m 0 300000, .int .i64 9, .int .i64 0]) (by simp [results, Tryd.results7, go_sem, tok, k0, k1, k2, k3, k4]) rfl ⟨rfl, ?_⟩
  exact (((((HB.out.setCell (Nat.le_refl _) _).setCell (Nat.le_refl _) _).setCell (Nat.le_refl _) _).setCell (Nat.le_refl _) _).setCell (Nat.le_refl _) _).alloc (by simp; omega) _
theorem next_sL_9 (w : World) : Calls Tryd.prog 7 #[.string sL, .int .i64 9] w (Gives (.tuple #[tok 5 9 tKet 0 0, .int .i64 10, .int .i64 0]) w) := by
  have z := sL_size
  have b := sL_9
  have b' := sL_10
  have x := e6
  have hst := run_store_float
  go_enter Tryd.func7, Tryd.ntmps7
  go_wp2_with (first | ((with_reducible refine (pass_sL_9 _).mono ?_); rintro e w' ⟨rfl, rfl⟩) | ((with_reducible refine (mark_sL_9 _).mono ?_); rintro e w' ⟨rfl, rfl⟩) | (go_at_call 9; go_in) | (go_at_call 11; go_in) | fail)
  exact bodyPost_ret (v := .tuple #[tok 5 9 tKet 0 0, .int .i64 10, .int .i64 0]) (by simp [results, Tryd.results7, go_sem, tok]) rfl ⟨rfl, (Below.refl _ _).alloc (Nat.le_refl _) _⟩
theorem next_sL_10 (w : World) : Calls Tryd.prog 7 #[.string sL, .int .i64 10] w (Gives (.tuple #[tok 5 10 tRap 0 0, .int .i64 11, .int .i64 0]) w) := by
  have z := sL_size
  have b := sL_10
  have b' := sL_11
  have x := e7
  have hst := run_store_float
  go_enter Tryd.func7, Tryd.ntmps7
  go_wp2_with (first | ((with_reducible refine (pass_sL_10 _).mono ?_); rintro e w' ⟨rfl, rfl⟩) | ((with_reducible refine (mark_sL_10 _).mono ?_); rintro e w' ⟨rfl, rfl⟩) | (go_at_call 9; go_in) | (go_at_call 11; go_in) | fail)
  exact bodyPost_ret (v := .tuple #[tok 5 10 tRap 0 0, .int .i64 11, .int .i64 0]) (by simp [results, Tryd.results7, go_sem, tok]) rfl ⟨rfl, (Below.refl _ _).alloc (Nat.le_refl _) _⟩
theorem next_sL_11 (w : World) : Calls Tryd.prog 7 #[.string sL, .int .i64 11] w (Gives (.tuple #[tok 5 12 tGe 0 0, .int .i64 14, .int .i64 0]) w) := by
  have z := sL_size
  have b := sL_12
  have b' := sL_13
  have x := e8
  have hst := run_store_float
  go_enter Tryd.func7, Tryd.ntmps7
  go_wp2_with (first | ((with_reducible refine (pass_sL_11 _).mono ?_); rintro e w' ⟨rfl, rfl⟩) | ((with_reducible refine (mark_sL_12 _).mono ?_); rintro e w' ⟨rfl, rfl⟩) | (go_at_call 9; go_in) | (go_at_call 11; go_in) | fail)
  exact bodyPost_ret (v := .tuple #[tok 5 12 tGe 0 0, .int .i64 14, .int .i64 0]) (by simp [results, Tryd.results7, go_sem, tok]) rfl ⟨rfl, (Below.refl _ _).alloc (Nat.le_refl _) _⟩
theorem next_sL_14 (w : World) (hT : Tabs w) : Calls Tryd.prog 7 #[.string sL, .int .i64 14] w (Gives (.tuple #[tok 2 15 sN 4654311885213007872 0, .int .i64 20, .int .i64 0]) w) := by
  have z := sL_size
  have b := sL_15
  have b' := sL_16
  have x := e9
  have hst := run_store_float
  have HT := Lib.hid hT
  clear hT
  go_enter Tryd.func7, Tryd.ntmps7
  go_wp2_with (first | ((with_reducible refine (pass_sL_14 _).mono ?_); rintro e w' ⟨rfl, rfl⟩) | ((with_reducible refine (stretch_sL_15 _).mono ?_); rintro e w' ⟨rfl, rfl⟩) | (go_at_call 9; go_in) | (go_at_call 11; go_in) | fail)
  refine (number_15 _ (HT.out.below ((Below.refl _ _).alloc (Nat.le_refl _) _))).mono ?_
  rintro e W2 ⟨rfl, hb⟩
  have hsz := hb.size
  have hlt : w.heap.size < W2.heap.size := by simp at hsz; omega
  have hne : ¬ w.heap.size = W2.heap.size := by omega
  have hne' : ¬ W2.heap.size = w.heap.size := by omega
  have hcell : ∀ j v, #[Value.int .i64 0, .int .i64 0, .string ⟨#[]⟩, .float .f64 0, .int .i64 0][j]? = some v → W2.cell? ⟨w.heap.size, j, none⟩ = some v := by
    intro j v hv
    rw [hb.cell (p := ⟨_, _, none⟩) (by simp)]
    exact (blk_cell (blk_new w _) j).trans hv
  have hfz : ∀ j, W2.frozen? ⟨w.heap.size, j, none⟩ = false := by
    intro j
    rw [hb.frozen (p := ⟨_, _, none⟩) (by simp)]
    exact blk_frozen (blk_new w _) j
  have c0 : W2.cell? ⟨w.heap.size, 0, none⟩ = some (.int .i64 0) := hcell 0 _ rfl
  have c1 : W2.cell? ⟨w.heap.size, 1, none⟩ = some (.int .i64 0) := hcell 1 _ rfl
  have c2 : W2.cell? ⟨w.heap.size, 2, none⟩ = some (.string ⟨#[]⟩) := hcell 2 _ rfl
  have c3 : W2.cell? ⟨w.heap.size, 3, none⟩ = some (.float .f64 0) := hcell 3 _ rfl
  have c4 : W2.cell? ⟨w.heap.size, 4, none⟩ = some (.int .i64 0) := hcell 4 _ rfl
  have f0 := hfz 0
  have f1 := hfz 1
  have f2 := hfz 2
  have f3 := hfz 3
  have f4 := hfz 4
  have HB := Lib.hid (((Below.refl w.heap.size w).alloc (Nat.le_refl _) _).trans (hb.mono (by simp)))
  clear hb hsz hcell hfz
  unfold tok
  go_wp2_with fail
  obtain ⟨k0, k1, k2, k3, k4⟩ := set5 W2 w.heap.size (.int .i64 2) (.int .i64 15) (.string sN) (.float .f64 4654311885213007872) (.int .i64 0) (.cells #[.int .i64 2, .int .i64 15, .string sN, .float .f64 4654311885213007872, .int .i64 0] 26) hlt (by rw [c0]; rfl) (by rw [c1]; rfl) (by rw [c2]; rfl) (by rw [c3]; rfl) (by rw [c4]; rfl)
  refine bodyPost_ret (fn := Tryd.f7) (v := .tuple #[tok 2 15 sN 4654311885213007872 0, .int .i64 20, .int .i64 0]) (by simp [results, Tryd.results7, go_sem, tok, k0, k1, k2, k3, k4]) rfl ⟨rfl, ?_⟩
  exact (((((HB.out.setCell (Nat.le_refl _) _).setCell (Nat.le_refl _) _).setCell (Nat.le_refl _) _).setCell (Nat.le_refl _) _).setCell (Nat.le_refl _) _).alloc (by simp; omega) _
theorem next_sL_20 (w : World) : Calls Tryd.prog 7 #[.string sL, .int .i64 20] w (Gives (.tuple #[tok 0 24 ⟨#[]⟩ 0 0, .int .i64 24, .int .i64 0]) w) := by
  have z := sL_size
  have hst := run_store_float
  go_enter Tryd.func7, Tryd.ntmps7
  go_wp2_with (first | ((with_reducible refine (pass_sL_20 _).mono ?_); rintro e w' ⟨rfl, rfl⟩) | (go_at_call 9; go_in) | (go_at_call 11; go_in) | fail)
  exact bodyPost_ret (v := .tuple #[tok 0 24 ⟨#[]⟩ 0 0, .int .i64 24, .int .i64 0]) (by simp [results, Tryd.results7, go_sem, tok]) rfl ⟨rfl, (Below.refl _ _).alloc (Nat.le_refl _) _⟩
theorem next_sM_0 (w : World) : Calls Tryd.prog 7 #[.string sM, .int .i64 0] w (Gives (.tuple #[tok 1 0 tA 0 0, .int .i64 1, .int .i64 0]) w) := by
  have z := sM_size
  have b := sM_0
  have b' := sM_1
  have x := f1
  have hst := run_store_float
  go_enter Tryd.func7, Tryd.ntmps7
  go_wp2_with (first | ((with_reducible refine (pass_sM_0 _).mono ?_); rintro e w' ⟨rfl, rfl⟩) | ((with_reducible refine (word_sM_0 _).mono ?_); rintro e w' ⟨rfl, rfl⟩) | (go_at_call 9; go_in) | (go_at_call 11; go_in) | fail)
  exact bodyPost_ret (v := .tuple #[tok 1 0 tA 0 0, .int .i64 1, .int .i64 0]) (by simp [results, Tryd.results7, go_sem, tok]) rfl ⟨rfl, (Below.refl _ _).alloc (Nat.le_refl _) _⟩
theorem next_sM_1 (w : World) : Calls Tryd.prog 7 #[.string sM, .int .i64 1] w (Gives (.tuple #[tok 0 0 ⟨#[]⟩ 0 0, .int .i64 2, .int .i64 2]) w) := by
  have z := sM_size
  have b := sM_2
  have hst := run_store_float
  go_enter Tryd.func7, Tryd.ntmps7
  go_wp2_with (first | ((with_reducible refine (pass_sM_1 _).mono ?_); rintro e w' ⟨rfl, rfl⟩) | ((with_reducible refine (mark_sM_2 _).mono ?_); rintro e w' ⟨rfl, rfl⟩) | (go_at_call 9; go_in) | (go_at_call 11; go_in) | fail)
  exact bodyPost_ret (v := .tuple #[tok 0 0 ⟨#[]⟩ 0 0, .int .i64 2, .int .i64 2]) (by simp [results, Tryd.results7, go_sem, tok]) rfl ⟨rfl, (Below.refl _ _).alloc (Nat.le_refl _) _⟩
end Go.Proofs.YtdmmmdnfofoefaaDoor.Lx
