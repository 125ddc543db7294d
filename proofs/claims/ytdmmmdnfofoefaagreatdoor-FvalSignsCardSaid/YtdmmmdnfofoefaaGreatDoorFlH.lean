/-
  What the rows' condition gives: the listed variables as the program's text lays them.
-/
import Derived.Test.YtdmmmdnfofoefaaGreatDoorFlR
import Derived.Test.YtdmmmdnfofoefaaGreatDoorTie
import Derived.ProofKit
import Derived.OpenShut
import Derived.LaidMore
import Derived.Lay
import Derived.Stop.Joined
namespace Go.Proofs.YtdmmmdnfofoefaaGreatDoor.Fl
open Go Go.RowKit
set_option maxRecDepth 100000
def tensZ : List Nat := [4607182418800017408, 4621819117588971520, 4636737291354636288, 4652007308841189376, 4666723172467343360, 4681608360884174848, 4696837146684686336, 4711630319722168320, 4726483295884279808, 4741671816366391296, 4756540486875873280, 4771362005757984768, 4786511204640096256, 4801453603149578240, 4816244402031689728, 4831355200913801216, 4846369599423283200, 4861130398305394688, 4876203697187506176, 4891288408196988160, 4906019910204099648, 4921056587992461136, 4936209963552724370]
def u64Z : List Int := [1, 10, 100, 1000, 10000, 100000, 1000000, 10000000, 100000000, 1000000000, 10000000000, 100000000000, 1000000000000, 10000000000000, 100000000000000, 1000000000000000, 10000000000000000, 100000000000000000, 1000000000000000000, 10000000000000000000]
theorem pow364 : Go.Pinned.pow10Rows[364]? = some (10240000000000000000, 0) := by kernel_rfl
theorem laid_of {W : World} (h : laidMetH Tryz.prog Rows.fvalOrderRow.laid W) : Laid W := by
  rw [MakeChecks.laidMetH_plain _ _ _ (by kernel_rfl)] at h
  obtain ⟨ps, hv, _, _⟩ := h
  obtain ⟨a, cap, h1, h2⟩ := laid_ten hv tensZ 6 (by rfl)
  have hp := laid_pow hv Go.Pinned.pow10Rows 12 (by rfl) 364 _ _ pow364 (by decide)
  exact ⟨⟨laid_mant hv 3 (by rfl), laid_opt hv 4 (by rfl), a, cap, h1, h2 2 (by decide), h2 3 (by decide)⟩, ⟨⟨hp.1, hp.2⟩, laid_u64 hv u64Z 8 (by rfl) 15 (by decide) (by decide), laid_big hv 1 _ (by rfl)⟩⟩
theorem nat_of {n : Int} (h : (Lit.int .u64 n).wf = true) : ∃ x : Nat, n = (x : Int) ∧ x < 18446744073709551616 := by
  have h' : 0 ≤ n ∧ n ≤ 18446744073709551615 := by simpa [Lit.wf, IntKind.min, IntKind.max, IntKind.signed, IntKind.bits] using h
  exact ⟨n.toNat, by omega, by omega⟩
theorem flOwn : ownKnob Tryz.prog.godebug = none := by kernel_rfl
end Go.Proofs.YtdmmmdnfofoefaaGreatDoor.Fl
