/-
  Sums of values, from the left: as a plain function of words of 64 bits.
-/
import Derived.Test.YtdmmmdnfofoefaaGreatDoorFlE
import Derived.Below
import Derived.LoopN
namespace Go.Proofs.YtdmmmdnfofoefaaGreatDoor.Fl
open Go Go.RowKit
set_option maxHeartbeats 4000000
set_option maxRecDepth 100000

def foldS (x : Nat) (l : List Nat) : Nat := l.foldl (fun s y => arith .add s y) (canon x)
def sumV : List Nat → Nat
  | [] => 0
  | x :: l => foldS x l
theorem foldS_snoc (x : Nat) (l : List Nat) (y : Nat) : foldS x (l ++ [y]) = arith .add (foldS x l) y := by unfold foldS; rw [List.foldl_append]; rfl
theorem arith_canon (op : BinOp) (a b : Nat) : canon (arith op a b) = arith op a b := by
  unfold arith
  cases floatBits op .f64 a b with
  | none => exact canon_of_nan nan_nz
  | some r => exact canon_canon r
theorem foldS_canon (x : Nat) (l : List Nat) : canon (foldS x l) = foldS x l := by
  rcases List.eq_nil_or_concat l with rfl | ⟨l', y, rfl⟩
  · exact canon_canon x
  · rw [List.concat_eq_append, foldS_snoc]; exact arith_canon _ _ _
theorem arith_congr {s s' : Nat} (y : Nat) (h : canon s = canon s') : arith .add s y = arith .add s' y := by
  cases hs : nan s
  · cases hs' : nan s'
    · rw [canon_of_num hs, canon_of_num hs'] at h; rw [h]
    · have := nan_canon s; rw [h, nan_canon, hs', hs] at this; cases this
  · cases hs' : nan s'
    · have := nan_canon s; rw [h, nan_canon, hs', hs] at this; cases this
    · unfold arith; rw [add_nan_l y hs, add_nan_l y hs']
/-- A slice of values. -/
def Fls (w : World) (v : Value) (l : List Nat) : Prop :=
  (v = .slice none 0 0 ∧ l = []) ∨ ∃ (g cap : Nat), v = .slice (some ⟨g, 0, none⟩) l.length cap ∧ l.length ≤ cap ∧ ∀ i (h : i < l.length), w.cell? ⟨g, i, none⟩ = some (.float .f64 (l[i]'h))
theorem sum_calls (v : Value) (l : List Nat) (w : World) (hl : l.length ≤ 100000) (h : Fls w v l) : Calls Tryz.prog 11 #[v] w (Reads (.float .f64 (sumV l)) w) := by
  rcases h with ⟨rfl, rfl⟩ | ⟨g, cap, rfl, hcap, hc⟩
  · go_enter Tryz.func11, Tryz.ntmps11
    go_wp2
    go_ret
    exact ⟨rfl, 0, rfl⟩
  rcases l with _ | ⟨x, l⟩
  · go_enter Tryz.func11, Tryz.ntmps11
    go_wp2
    go_ret
    exact ⟨rfl, 0, rfl⟩
  have hx := hc 0 (by simp)
  have HC := Lib.hid hc
  have HCap := Lib.hid hcap
  simp only [List.getElem_cons_zero] at hx
  have hn : ((x :: l).length : Int) = l.length + 1 := by simp
  have hnn : (x :: l).length = l.length + 1 := rfl
  rw [hnn]
  rw [hnn] at hcap
  rw [List.length_cons] at hl
  clear hc hn hnn
  rcases l with _ | ⟨y, l⟩
  · by_cases hc1 : cap = 1
    · subst hc1
      go_enter Tryz.func11, Tryz.ntmps11
      go_wp2
      refine wp_loop_rounds 1 ?_
      rw [rounds_succ]
      go_wp2_with ((with_reducible refine (canon_calls _ _).mono ?_); rintro e w' ⟨rfl, rfl⟩)
      go_ret
      exact ⟨rfl, 0, rfl⟩
    · go_enter Tryz.func11, Tryz.ntmps11
      go_wp2
      refine wp_loop_rounds 1 ?_
      rw [rounds_succ]
      go_wp2_with ((with_reducible refine (canon_calls _ _).mono ?_); rintro e w' ⟨rfl, rfl⟩)
      go_ret
      exact ⟨rfl, 0, rfl⟩
  · obtain ⟨m, hm⟩ : ∃ m, (y :: l) = m := ⟨_, rfl⟩
    have hm0 : 0 < m.length := by rw [← hm]; simp
    rw [hm] at hl hcap HC HCap ⊢
    clear hm
    go_enter Tryz.func11, Tryz.ntmps11
    go_wp2
    go_loopw [3, 15] (fun acc ix wr => ∃ (k s q : Nat), k ≤ m.length ∧ ix = .int .i64 (k : Int) ∧ acc = .float .f64 s ∧ canon s = foldS x (m.take k) ∧ wr = w.drewN q) (fun _ ix _ => m.length - (RowKit.intOf ix).toNat)
    case atStart => exact ⟨0, x, 0, Nat.zero_le _, rfl, rfl, rfl, rfl⟩
    case round =>
      obtain ⟨k, s, q, hk, rfl, rfl, hs, rfl⟩ := hrel
      have HS := Lib.hid hs; clear hs
      by_cases hkl : k < m.length
      · have hcell : w.cell? ⟨g, 1 + k, none⟩ = some (.float .f64 (m[k]'hkl)) := by
          rw [Nat.add_comm]
          exact HC.out (k + 1) (by simp; omega)
        have hsn : foldS x (m.take (k + 1)) = arith .add (foldS x (m.take k)) (m[k]'hkl) := by
          rw [List.take_add_one, List.getElem?_eq_getElem hkl]
          exact foldS_snoc _ _ _
        generalize m[k]'hkl = y at hcell hsn
        obtain ⟨r, n, hr, hcr⟩ := run_arith (op := .add) rfl Tryz.prog 24 s y (w.drewN q)
        have hnew : canon r = foldS x (m.take (k + 1)) := by
          rw [hcr, hsn]
          exact arith_congr y (by rw [HS.out, foldS_canon])
        have HN := Lib.hid hnew
        clear hnew hcr hsn
        go_wp2
        go_roundw
        case rel => exact ⟨k + 1, r, _, hkl, by go_num, rfl, HN.out, rfl⟩
        case measure => simp [RowKit.intOf]; omega
      · have hke : k = m.length := by omega
        have he : canon s = sumV (x :: m) := by rw [HS.out, hke, List.take_length]; rfl
        have HE := Lib.hid he
        clear he
        go_wp2_with ((with_reducible refine (canon_calls _ _).mono ?_); rintro e w' ⟨rfl, rfl⟩)
        go_ret
        exact ⟨by rw [HE.out]; rfl, q, rfl⟩
theorem rsum_calls (v : Value) (l : List Nat) (w : World) (hl : l.length ≤ 100000) (h : Fls w v l) : Calls Tryz.prog 14 #[v] w (Reads (.float .f64 (sumV l)) w) := by
  rcases h with ⟨rfl, rfl⟩ | ⟨g, cap, rfl, hcap, hc⟩
  · go_enter Tryz.func14, Tryz.ntmps14
    go_wp2
    go_ret
    exact ⟨rfl, 0, rfl⟩
  rcases l with _ | ⟨x, m⟩
  · go_enter Tryz.func14, Tryz.ntmps14
    go_wp2
    go_ret
    exact ⟨rfl, 0, rfl⟩
  have hx := hc 0 (by simp)
  have HC := Lib.hid hc
  have HCap := Lib.hid hcap
  simp only [List.getElem_cons_zero] at hx
  have hnn : (x :: m).length = m.length + 1 := rfl
  rw [hnn]
  rw [List.length_cons] at hl
  clear hc hnn hcap
  go_enter Tryz.func14, Tryz.ntmps14
  go_wp2
  go_loopw [3, 4] (fun acc ix wr => ∃ (k s q : Nat), k ≤ m.length ∧ ix = .int .i64 (k + 1 : Int) ∧ acc = .float .f64 s ∧ canon s = foldS x (m.take k) ∧ wr = w.drewN q) (fun _ ix _ => m.length + 1 - (RowKit.intOf ix).toNat)
  case atStart => exact ⟨0, x, 0, Nat.zero_le _, rfl, rfl, rfl, rfl⟩
  case round =>
    obtain ⟨k, s, q, hk, rfl, rfl, hs, rfl⟩ := hrel
    have HS := Lib.hid hs; clear hs
    by_cases hkl : k < m.length
    · have hcell : w.cell? ⟨g, k + 1, none⟩ = some (.float .f64 (m[k]'hkl)) := HC.out (k + 1) (by simp; omega)
      have hsn : foldS x (m.take (k + 1)) = arith .add (foldS x (m.take k)) (m[k]'hkl) := by
        rw [List.take_add_one, List.getElem?_eq_getElem hkl]
        exact foldS_snoc _ _ _
      generalize m[k]'hkl = y at hcell hsn
      obtain ⟨r, n, hr, hcr⟩ := run_arith (op := .add) rfl Tryz.prog 24 s y (w.drewN q)
      have hnew : canon r = foldS x (m.take (k + 1)) := by
        rw [hcr, hsn]
        exact arith_congr y (by rw [HS.out, foldS_canon])
      have HN := Lib.hid hnew
      clear hnew hcr hsn
      go_wp2
      go_roundw
      case rel => exact ⟨k + 1, r, _, hkl, by go_num, rfl, HN.out, rfl⟩
      case measure => simp [RowKit.intOf]; omega
    · have hke : k = m.length := by omega
      have he : canon s = sumV (x :: m) := by rw [HS.out, hke, List.take_length]; rfl
      have HE := Lib.hid he
      clear he
      go_wp2_with ((with_reducible refine (rcanon_calls _ _).mono ?_); rintro e w' ⟨rfl, rfl⟩)
      go_ret
      exact ⟨by rw [HE.out]; rfl, q, rfl⟩
end Go.Proofs.YtdmmmdnfofoefaaGreatDoor.Fl
