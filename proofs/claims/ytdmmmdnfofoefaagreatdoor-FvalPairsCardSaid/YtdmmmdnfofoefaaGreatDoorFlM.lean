/-
  The statements FvalPairs, FvalSigns and FvalSums: their walks.
-/
import Derived.Test.YtdmmmdnfofoefaaGreatDoorFlK
import Derived.Test.YtdmmmdnfofoefaaGreatDoorFlQ
namespace Go.Proofs.YtdmmmdnfofoefaaGreatDoor.Fl
open Go Go.RowKit
set_option maxHeartbeats 16000000
set_option maxRecDepth 100000

theorem opV_canon (op : Int) (a b : Nat) : canon (opV op a b) = opV op a b := by
  unfold opV
  repeat (first | exact arith_canon _ _ _ | split)
  · exact canon_of_num one_num
  · exact canon_of_num nan_0
theorem fnV_canon (fn : Int) (v : Nat) (arg : Nat) : canon (fnV fn v arg) = fnV fn v arg := by
  unfold fnV
  split
  · exact canon_canon _
  split
  · exact canon_canon _
  split
  · split
    · exact canon_of_nan nan_nz
    · rename_i h
      split
      · exact canon_of_num one_num
      · split
        · exact canon_of_num mone_num
        · exact canon_of_num (by simpa using h)
  split
  · split
    · exact canon_of_nan nan_nz
    · rename_i h
      simp at h
      split
      · exact canon_of_num h.2
      · exact canon_of_num h.1
  split
  · split
    · exact canon_of_nan nan_nz
    · rename_i h
      simp at h
      split
      · exact canon_of_num h.2
      · exact canon_of_num h.1
  · exact canon_of_num nan_0
theorem pairs_calls (x y : Nat) (op fn : Int) (hx : x < 18446744073709551616) (hy : y < 18446744073709551616) (W : World) (hL : Laid W) :
    Calls Tryz.prog 7 #[.int .u64 x, .int .u64 y, .int .i64 op, .int .i64 fn] W (LawPost W) := by
  have hf := run_frombits
  have ht := run_tobits
  have HK := Lib.hid (known_calls W hL)
  have HX := Lib.hid hx
  have HY := Lib.hid hy
  have HP := Lib.hid (opV_canon op x y)
  have HF := Lib.hid (fnV_canon fn x y)
  have s1 := same_refl (opV op x y)
  have s2 := same_refl (fnV fn x y)
  clear hx hy hL
  go_enter Tryz.func7, Tryz.ntmps7
  go_wp2_with fail
  refine HK.out.mono ?_
  rintro e W1 ⟨rfl, hb⟩
  have HB := Lib.hid hb
  clear hb
  go_wp2_with (first | ((with_reducible refine (op_calls op x y _).mono ?_); rintro e w' ⟨rfl, n1, rfl⟩) | ((with_reducible refine (rop_calls op x y _).mono ?_); rintro e w' ⟨rfl, n2, rfl⟩) | ((with_reducible refine (fn_calls fn x y HX.out _).mono ?_); rintro e w' ⟨rfl, n3, rfl⟩) | ((with_reducible refine (rfn_calls fn x y HX.out _).mono ?_); rintro e w' ⟨rfl, n4, rfl⟩) | ((with_reducible refine (rsame_calls _ _ _).mono ?_); rintro e w' ⟨rfl, rfl⟩) | ((with_reducible refine (same_calls _ _ _).mono ?_); rintro e w' ⟨rfl, rfl⟩) | ((with_reducible refine (holds_calls _ _ _ _).mono ?_); rintro e w' ⟨rfl, rfl⟩) | ((with_reducible refine (rholds_calls _ _ _ _).mono ?_); rintro e w' ⟨rfl, rfl⟩) | ((with_reducible refine (bits_calls _ _).mono ?_); rintro e w' ⟨rfl, rfl⟩) | ((with_reducible refine (rbits_calls (opV op x y) _).mono ?_); rw [HP.out]; rintro e w' ⟨rfl, rfl⟩) | ((with_reducible refine (rbits_calls (fnV fn x y) _).mono ?_); rw [HF.out]; rintro e w' ⟨rfl, rfl⟩) | ((with_reducible refine (rbits_calls _ _).mono ?_); rintro e w' ⟨rfl, rfl⟩) | ((with_reducible refine (isStale_calls _ _).mono ?_); rintro e w' ⟨rfl, rfl⟩) | ((with_reducible refine (risStale_calls _ _).mono ?_); rintro e w' ⟨rfl, rfl⟩) | ((with_reducible refine (before_calls _ _ HX.out HY.out _).mono ?_); rintro e w' ⟨rfl, rfl⟩) | ((with_reducible refine (rbefore_calls _ _ HX.out HY.out _).mono ?_); rintro e w' ⟨rfl, rfl⟩) | ((with_reducible refine (canon_calls _ _).mono ?_); rintro e w' ⟨rfl, rfl⟩) | fail)
  go_ret
  exact ⟨rfl, below_drewN HB.out _⟩
end Go.Proofs.YtdmmmdnfofoefaaGreatDoor.Fl
