/-
  FvalSumsCardSaid: for all inputs the law FvalSums returns true and leaves its arguments as they were; the card ties the listed variables to the program's text.
-/
import Derived.Test.YtdmmmdnfofoefaaGreatDoorFlH
import Derived.Test.YtdmmmdnfofoefaaGreatDoorFlN
import Derived.Test.YtdmmmdnfofoefaaGreatDoorCards
import Derived.SevenTiedAt
import Derived.WalkKit
namespace Go.Proofs.YtdmmmdnfofoefaaGreatDoor
open Go Go.ChangeShapes Go.WideShapes Go.ChangeAt Go.RowKit
set_option maxRecDepth 100000 in
theorem fvalSums_lifted (os : Os) (started : os.Started) (H : Type) (enc : TypeId × Value → H) :
    ReturnsInHanded {} Tryz.checked os 4 .any (fun w args => (Rows.fvalSumsSpec.pre enc Tryz.prog Tryz.f4 Rows.fvalSumsRow.domain false w args ∧ laidMetH Tryz.prog Rows.fvalSumsRow.laid w) ∧ sizedMet enc Tryz.prog Tryz.f4 (OpenSpec.ofChange Rows.fvalSumsSpec) false w args)
      (Rows.fvalSumsSpec.post enc Tryz.prog Tryz.f4 false true false false) := by
  refine returnsInHanded_of_change_and (C := Tryz.checked) (X := fun w _ => laidMetH Tryz.prog Rows.fvalSumsRow.laid w) (fun _ _ _ hh h => h.of_heap hh) Fl.flOwn started (by kernel_rfl) Tryz.func4
    (ChangeSpec.witness_shaped (enc := enc) (C := Tryz.checked) (os := os) (X := fun w _ => laidMetH Tryz.prog Rows.fvalSumsRow.laid w) false (World.laidAll Tryz.prog os Rows.fvalSumsRow.laid) #[.slice none 0 0] 8 (World.laidAll_os _ _ _)
      (World.shaped_of_ZipB (by kernel_rfl) (by kernel_rfl)) (by kernel_rfl) (by kernel_rfl) (by kernel_rfl)
      (by rw [MakeChecks.laidMetH_plain _ _ _ (by kernel_rfl)]; exact laidMet_laidAll _ (by kernel_rfl) (by kernel_rfl))) ?_
  intro W base args ds gs before hval0 hW hc _ hL _
  have hval : ∀ (j : Nat) t v, Tryz.f4.params[j]? = some t → args[j]? = some v → Value.okWide Tryz.prog W .any base t v := hval0
  have hW' := hW
  obtain ⟨p, q, hA0, hV, rfl, _, _⟩ := hW
  have hA : DataW.TrodAll enc Tryz.prog W 0 (fun _ => true) true Tryz.f4.params.toList args.toList ds p := hA0
  rw [Tryz.params4] at hA hval
  obtain ⟨v0, d0, rfl, rfl, h0⟩ := trodAll_one hA
  obtain ⟨rfl, rfl⟩ := trodVars_none hV
  obtain ⟨ao, al, ac, rfl⟩ := okWide_slice Tryz.underlying29 (hval 0 29 v0 rfl rfl)
  have h0k := h0
  have hlt : ∀ x ∈ p, x.block < W.heap.size := fun x hx => by simpa using hW'.lt x (by simp [hx])
  have flLaid : laidOutB Tryz.prog = true := by kernel_rfl
  simp only [List.append_nil] at hW'
  have key : ∀ l : List Nat, l.length ≤ maxLen → Fl.InU W (.slice ao al ac) l → Calls Tryz.prog 4 #[.slice ao al ac] W fun e W' => ∃ v, e = .returned v ∧ Rows.fvalSumsSpec.post enc Tryz.prog Tryz.f4 false true false false W #[.slice ao al ac] v W' := by
    intro l hl hin
    refine (Fl.sums_calls (.slice ao al ac) l W hin hl (Fl.laid_of hL)).mono fun e W' ⟨he, hb⟩ => ?_
    subst he
    exact ⟨_, rfl, _, _, _, [], p, [], hW', (trodAll_cons_mk (shut_bool Tryz.underlying4 _) trodAll_mk0), (by have := trodAll_cons_mk (Below.trod flLaid (by kernel_rfl) (of_decide_eq_true (by kernel_rfl)) h0k hb hlt) trodAll_mk0; simp only [List.append_nil] at this; exact this), rfl, hb.frame _, fun h => by cases h⟩
  obtain ⟨fuel, hf⟩ := h0
  rcases open_ints Tryz.underlying29 Tryz.underlying22 (by kernel_rfl) hf with ⟨hcs, hx⟩ | ⟨ad, len, cap, zs, hcs, _, hlc, hcm, hzs, hx, hcell, hw⟩
  · simp only [Value.cells, List.cons.injEq, and_true] at hcs
    exact key [] (by simp) (.inl ⟨0, hcs, rfl⟩)
  · simp only [Value.cells, List.cons.injEq, and_true] at hcs
    obtain ⟨l, hl, hin⟩ := Fl.inU_of (cap := cap) (len := len) (by simp at hzs; omega) hcell hw
    exact key l (by omega) (by rw [hcs]; exact hin)

theorem fvalSums_row : Rows.FvalSumsSaid :=
  OpenClaim.holds_of_wide 4 Tryz.f4 rfl rfl rfl rfl rfl rfl rfl ⟨rfl, rfl, rfl, rfl, rfl⟩ rfl rfl rfl rfl rfl (by kernel_rfl) Tryz.func4 (by kernel_rfl)
    (of_decide_eq_true (by kernel_rfl)) (by unfold Func.isWrapper; first | (rw [if_pos (by decide +kernel)]; kernel_rfl) | (rw [if_neg (by decide +kernel)]; exact ⟨rfl, rfl⟩))
    (fun os started H enc _ => fvalSums_lifted os started H enc)
theorem fvalSums_holds : Rows.FvalSumsCardSaid :=
  Claim7.holds_tied_plain_at .later [] [.data, .data, .widerDeep, .widerDeep, .data, .data, .data, .data, .data, .sentinel, .sentinel, .pinned, .pinned] true Rows.fvalSumsCard.stood.harness true fvalSums_row (fun _ h => by cases h) (by kernel_rfl) (fun _ h => by cases h) fvalSums_row_tie rfl ⟨rfl, rfl⟩ (by kernel_rfl) rfl
    (fun f fn hf hfn => by
      obtain rfl : f = 4 := Option.some.inj ((show Tryz.prog.funcNamed "isobar/isobarlaw1.FvalSums" = some 4 by kernel_rfl).symm.trans hf) |>.symm
      obtain rfl : fn = Tryz.f4 := (Option.some.inj (Tryz.func4.symm.trans hfn)).symm
      exact ⟨by kernel_rfl, fun j t ht => by
        rw [Tryz.params4] at ht
        have hm : t ∈ [29] := by simpa using Array.mem_of_getElem? ht
        have hall : ([29].all fun u => !Tryz.prog.wantsStandIn u) = true := by kernel_rfl
        exact (show Tryz.prog.wantsStandIn t = false by simpa using List.all_eq_true.1 hall t (by simpa using hm))⟩)
    (by kernel_rfl)
end Go.Proofs.YtdmmmdnfofoefaaGreatDoor
