/-
  DERIVED: THE SHELF's CONTRACTS AT THIS DUMP, IN PLAIN WORDS (tools/lay-plain.mjs out of 'TryzShelf.lean', which tools/lay-shelf.mjs wrote): THE SAME DECLARATIONS UNDER THE SAME NAMES: 'import', 'namespace', 'open', 'def', 'theorem' AND NOTHING ELSE: no command of the shelf's: FOR A HAND-IN. Each laying: the table of numbers ('.._ren') and one theorem, a field a fact of the dump's own or the kernel's comparison; each contract: ONE APPLICATION.
-/
import Derived.Shelf.Sort.Plain
import Derived.Test.YtjddnchenhnemaaGreatDoorProg
namespace Go.Proofs
open Go.Shelf
def Tryz.lays190_ren : Go.Shelf.Ren := ⟨fun | 190 => 14 | 125 => 21 | 258 => 20 | 128 => 41 | 129 => 42 | 302 => 32 | 303 => 33 | 304 => 34 | 305 => 35 | 306 => 36 | 307 => 37 | 308 => 38 | 309 => 39 | 310 => 40 | 333 => 53 | 329 => 54 | 330 => 55 | 334 => 56 | 335 => 57 | 336 => 58 | 344 => 78 | n => n, fun | 31 => 31 | 9 => 9 | 3 => 3 | 46 => 58 | 0 => 0 | 51 => 82 | 53 => 84 | 4 => 4 | 183 => 75 | 182 => 74 | 131 => 48 | 5 => 5 | 218 => 97 | 222 => 101 | 228 => 116 | 229 => 53 | n => n, fun | n => n⟩
theorem Tryz.lays190 : Go.Proofs.Lays.n190 Tryz.prog Tryz.lays190_ren := {
  mixed := by kernel_rfl
  f125 := Tryz.func21.trans (congrArg some (by kernel_rfl))
  f128 := Tryz.func41.trans (congrArg some (by kernel_rfl))
  f129 := Tryz.func42.trans (congrArg some (by kernel_rfl))
  f190 := Tryz.func14.trans (congrArg some (by kernel_rfl))
  f258 := Tryz.func20.trans (congrArg some (by kernel_rfl))
  f302 := Tryz.func32.trans (congrArg some (by kernel_rfl))
  f303 := Tryz.func33.trans (congrArg some (by kernel_rfl))
  f304 := Tryz.func34.trans (congrArg some (by kernel_rfl))
  f305 := Tryz.func35.trans (congrArg some (by kernel_rfl))
  f306 := Tryz.func36.trans (congrArg some (by kernel_rfl))
  f307 := Tryz.func37.trans (congrArg some (by kernel_rfl))
  f308 := Tryz.func38.trans (congrArg some (by kernel_rfl))
  f309 := Tryz.func39.trans (congrArg some (by kernel_rfl))
  f310 := Tryz.func40.trans (congrArg some (by kernel_rfl))
  f329 := Tryz.func54.trans (congrArg some (by kernel_rfl))
  f330 := Tryz.func55.trans (congrArg some (by kernel_rfl))
  f333 := Tryz.func53.trans (congrArg some (by kernel_rfl))
  f334 := Tryz.func56.trans (congrArg some (by kernel_rfl))
  f335 := Tryz.func57.trans (congrArg some (by kernel_rfl))
  f336 := Tryz.func58.trans (congrArg some (by kernel_rfl))
  f344 := Tryz.func78.trans (congrArg some (by kernel_rfl))
  t0 := Tryz.underlying0
  a0 := Tryz.isAgg0
  z0 := Tryz.sizeOf0
  v0 := Tryz.zeroValue0
  t3 := Tryz.underlying3
  a3 := Tryz.isAgg3
  z3 := Tryz.sizeOf3
  v3 := Tryz.zeroValue3
  t4 := Tryz.underlying4
  a4 := Tryz.isAgg4
  z4 := Tryz.sizeOf4
  v4 := Tryz.zeroValue4
  t5 := Tryz.underlying5
  a5 := Tryz.isAgg5
  z5 := Tryz.sizeOf5
  v5 := Tryz.zeroValue5
  t9 := Tryz.underlying9
  a9 := Tryz.isAgg9
  z9 := Tryz.sizeOf9
  v9 := Tryz.zeroValue9
  t31 := Tryz.underlying31
  a31 := Tryz.isAgg31
  z31 := Tryz.sizeOf31
  v31 := Tryz.zeroValue31
  t46 := Tryz.underlying58
  a46 := Tryz.isAgg58
  z46 := Tryz.sizeOf58
  v46 := Tryz.zeroValue58
  t51 := Tryz.underlying82
  a51 := Tryz.isAgg82
  z51 := Tryz.sizeOf82
  v51 := Tryz.zeroValue82
  t53 := Tryz.underlying84
  a53 := Tryz.isAgg84
  z53 := Tryz.sizeOf84
  v53 := Tryz.zeroValue84
  t131 := Tryz.underlying48
  a131 := Tryz.isAgg48
  z131 := Tryz.sizeOf48
  v131 := Tryz.zeroValue48
  t182 := Tryz.underlying74
  a182 := Tryz.isAgg74
  z182 := Tryz.sizeOf74
  v182 := Tryz.zeroValue74
  t183 := Tryz.underlying75
  a183 := Tryz.isAgg75
  z183 := Tryz.sizeOf75
  v183 := Tryz.zeroValue75
  t218 := Tryz.underlying97
  a218 := Tryz.isAgg97
  z218 := Tryz.sizeOf97
  v218 := Tryz.zeroValue97
  t222 := Tryz.underlying101
  a222 := Tryz.isAgg101
  z222 := Tryz.sizeOf101
  v222 := Tryz.zeroValue101
  t228 := Tryz.underlying116
  a228 := Tryz.isAgg116
  z228 := Tryz.sizeOf116
  v228 := Tryz.zeroValue116
  t229 := Tryz.underlying53
  a229 := Tryz.isAgg53
  z229 := Tryz.sizeOf53
  v229 := Tryz.zeroValue53 }
open Go.Sort Go.RowKit in
theorem Tryz.slices_Sort_string (blk off cap : Nat) (ss : List (List UInt8)) (w : World) (hH : Holds encStr w blk off ss.toArray) (hblk : blk < w.heap.size) (hsz : ss.length < 4611686018427387904) :
    Calls Tryz.prog 14 #[.slice (some ⟨blk, off, none⟩) ss.length cap] w fun e w' =>
      e = .returned (.tuple #[]) ∧ ∃ n os, w' = grow (putRow encStr (Sort.ahead w n) blk off (ss.mergeSort fun x y => decide (x ≤ y)).toArray) os := Any.slices_Sort_string Tryz.lays190 blk off cap ss w hH hblk hsz
end Go.Proofs
