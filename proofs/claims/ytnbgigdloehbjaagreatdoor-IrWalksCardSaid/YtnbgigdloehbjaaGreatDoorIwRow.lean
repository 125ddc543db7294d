/-
  IrWalksCardSaid: for all inputs the law IrWalks returns true and leaves its arguments as they were; the card ties the listed variables to the program's text.
-/
import Derived.Test.YtnbgigdloehbjaaGreatDoorIwY
import Derived.Test.YtnbgigdloehbjaaGreatDoorIsD
import Derived.Test.YtnbgigdloehbjaaGreatDoorTie
import Derived.Test.YtnbgigdloehbjaaGreatDoorCards
import Derived.SevenTiedAt
import Derived.WalkKit
import Derived.ProofKit
import Derived.OpenShut
import Derived.Lay
import Derived.LaidMore
import Derived.Lib.SmallJoins
import Derived.JoinedCond
namespace Go.Proofs.YtnbgigdloehbjaaGreatDoor
open Go Go.Joins Go.ChangeShapes Go.WideShapes Go.ChangeAt Go.RowKit

theorem irWalks_laidOut : laidOutB Tryz.prog = true := by kernel_rfl
theorem irWalks_own : ownKnob Tryz.prog.godebug = none := by kernel_rfl
set_option maxRecDepth 100000 in
theorem irWalks_lifted (os : Os) (started : os.Started) (H : Type) (enc : TypeId × Value → H) :
    ReturnsInHanded {} Tryz.checked os 4 .any (fun w args => (Rows.irWalksSpec.pre enc Tryz.prog Tryz.f4 Rows.irWalksRow.domain false w args ∧ laidMetH Tryz.prog Rows.irWalksRow.laid w) ∧ sizedMet enc Tryz.prog Tryz.f4 (OpenSpec.ofChange Rows.irWalksSpec) false w args)
      (Rows.irWalksSpec.post enc Tryz.prog Tryz.f4 false true false false) := by
  refine returnsInHanded_of_change_and (C := Tryz.checked) (X := fun w _ => laidMetH Tryz.prog Rows.irWalksRow.laid w) (fun _ _ _ hh h => h.of_heap hh) irWalks_own started (by kernel_rfl) Tryz.func4
    (ChangeSpec.witness_shaped (enc := enc) (C := Tryz.checked) (os := os) (X := fun w _ => laidMetH Tryz.prog Rows.irWalksRow.laid w) false (World.laidAll Tryz.prog os Rows.irWalksRow.laid) #[.agg Ir.zcl.toArray, .int .i64 0] 8 (World.laidAll_os _ _ _)
      (World.shaped_of_ZipB (by kernel_rfl) (by kernel_rfl)) (by kernel_rfl) (by kernel_rfl) (by kernel_rfl)
      (by rw [MakeChecks.laidMetH_plain _ _ _ (by kernel_rfl)]; exact laidMet_laidAll _ (by kernel_rfl) (by kernel_rfl))) ?_
  intro W base args ds gs before hval0 hW hc _ hL _
  have hval : ∀ (j : Nat) t v, Tryz.f4.params[j]? = some t → args[j]? = some v → Value.okWide Tryz.prog W .any base t v := hval0
  have hW' := hW
  obtain ⟨p, q, hA0, hV, rfl, _, _⟩ := hW
  have hA : DataW.TrodAll enc Tryz.prog W 0 (fun _ => true) true Tryz.f4.params.toList args.toList ds p := hA0
  rw [Tryz.params4] at hA hval
  obtain ⟨v0, vs0, d0, ds0, p0, q0, ha0, rfl, rfl, h0, r0⟩ := trodAll_cons hA
  obtain ⟨v1, vs1, d1, ds1, p1, q1, rfl, rfl, rfl, h1, r1⟩ := trodAll_cons r0
  obtain ⟨rfl, rfl, rfl⟩ := trodAll_nil r1
  obtain rfl : args = #[v0, v1] := by cases args; simp_all
  obtain ⟨rfl, rfl⟩ := trodVars_none hV
  obtain ⟨cA0, rfl, hsz0⟩ := okWide_struct Tryz.underlying31 (hval 0 31 v0 rfl rfl)
  have hc170 : cA0.toList.length = 17 := by
    have hC : Tryz.prog.cellsOf 31 = 17 := by kernel_rfl
    rw [Array.length_toList, hsz0, hC]
  have h0k := h0
  have hlt0 : ∀ x ∈ p0, x.block < W.heap.size := fun x hx => by simpa using hW'.lt x (by simp [hx])
  obtain ⟨fu0, hf0⟩ := h0
  obtain ⟨n0, hH0⟩ := Ir.open_nd fu0 cA0.toList _ hc170 hf0
  obtain ⟨x1, rfl, rfl, rfl, w1⟩ := open_int Tryz.underlying3 (hval 1 3 v1 rfl rfl) h1
  clear hA0 hval0
  simp only [List.append_nil] at hW'
  have hcall := Ir.walks_calls n0 W cA0.toList hH0 x1
  rw [Array.toArray_toList] at hcall
  refine hcall.mono fun e W' ⟨he, hb⟩ => ?_
  subst he
  exact ⟨_, rfl, _, _, _, [], p0, [], hW', (trodAll_cons_mk (shut_bool Tryz.underlying4 _) trodAll_mk0), (by have := (trodAll_cons_mk (Below.trod irWalks_laidOut (by kernel_rfl) (of_decide_eq_true (by kernel_rfl)) h0k hb hlt0) (trodAll_cons_mk (shut_int Tryz.underlying3 w1) trodAll_mk0)); simp only [List.append_nil] at this; exact this), rfl, hb.frame _, fun h => by cases h⟩

theorem irWalks_row : Rows.IrWalksSaid :=
  OpenClaim.holds_of_wide 4 Tryz.f4 rfl rfl rfl rfl rfl rfl rfl ⟨rfl, rfl, rfl, rfl, rfl⟩ rfl rfl rfl rfl rfl (by kernel_rfl) Tryz.func4 (by kernel_rfl)
    (of_decide_eq_true (by kernel_rfl)) (by unfold Func.isWrapper; first | (rw [if_pos (by decide +kernel)]; kernel_rfl) | (rw [if_neg (by decide +kernel)]; exact ⟨rfl, rfl⟩))
    (fun os started H enc _ => irWalks_lifted os started H enc)
theorem irWalks_holds : Rows.IrWalksCardSaid :=
  Claim7.holds_tied_plain_at .later [] [.data, .data, .data, .data, .pinned, .pinned] true Rows.irWalksCard.stood.harness false irWalks_row (fun _ h => by cases h) (by kernel_rfl) (fun _ h => by cases h) irWalks_row_tie rfl ⟨rfl, rfl⟩ (by kernel_rfl) rfl
    (fun f fn hf hfn => by
      obtain rfl : f = 4 := Option.some.inj ((show Tryz.prog.funcNamed "isobar/isobarlaw12.IrWalks" = some 4 by kernel_rfl).symm.trans hf) |>.symm
      obtain rfl : fn = Tryz.f4 := (Option.some.inj (Tryz.func4.symm.trans hfn)).symm
      exact ⟨by kernel_rfl, fun j t ht => by
        rw [Tryz.params4] at ht
        have hm : t ∈ [31, 3] := by simpa using Array.mem_of_getElem? ht
        have hall : ([31, 3].all fun u => !Tryz.prog.wantsStandIn u) = true := by kernel_rfl
        exact (show Tryz.prog.wantsStandIn t = false by simpa using List.all_eq_true.1 hall t (by simpa using hm))⟩)
    (by kernel_rfl)
end Go.Proofs.YtnbgigdloehbjaaGreatDoor
