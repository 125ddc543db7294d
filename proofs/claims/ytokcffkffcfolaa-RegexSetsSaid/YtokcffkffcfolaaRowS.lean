/-
  RegexSetsSaid: for every slice of bytes and every byte the law RegexSets returns true and leaves its arguments as they were.
-/
import Derived.Test.YtokcffkffcfolaaRows
import Derived.Test.YtokcffkffcfolaaRsB
import Derived.WalkKit
import Derived.ProofKit
import Derived.OpenShut
import Derived.JoinedCond
namespace Go.Proofs.Ytokcffkffcfolaa
open Go Go.ChangeShapes Go.WideShapes Go.ChangeAt Go.RowKit
open Go.ChangeMaps (open_string shut_string)

theorem rsLaid : laidOutB Try.prog = true := by kernel_rfl
theorem rsOwn : ownKnob Try.prog.godebug = none := by kernel_rfl
set_option maxRecDepth 100000 in
theorem rsLifted (os : Os) (started : os.Started) (H : Type) (enc : TypeId × Value → H) :
    ReturnsInHanded {} Try.checked os 4 .any (Rows.regexSetsSpec.pre6 enc Try.prog Try.f4 Rows.regexSetsRow.domain false) (Rows.regexSetsSpec.post enc Try.prog Try.f4 false true false false) := by
  refine returnsInHanded_of_change (C := Try.checked) rsOwn started (by kernel_rfl) Try.func4
    (ChangeSpec.witness6 (enc := enc) (C := Try.checked) false ⟨#[], #[.slice none 0 0, .int .u8 0], []⟩ 8 (by kernel_rfl) (by kernel_rfl) (by kernel_rfl) (by kernel_rfl)) ?_
  intro W base args ds gs before hval0 hW hcnd _
  have hval : ∀ (j : Nat) t v, Try.f4.params[j]? = some t → args[j]? = some v → Value.okWide Try.prog W .any base t v := hval0
  have hW' := hW
  obtain ⟨p, q, hA0, hV, rfl, hfz, hnd⟩ := hW
  have hA : DataW.TrodAll enc Try.prog W 0 (fun _ => true) true Try.f4.params.toList args.toList ds p := hA0
  rw [Try.params4] at hA hval
  obtain ⟨v0, vs0, d0, ds0, p0, q0, ha0, rfl, rfl, h0, r0⟩ := trodAll_cons hA
  obtain ⟨v1, vs1, d1, ds1, p1, q1, rfl, rfl, rfl, h1, r1⟩ := trodAll_cons r0
  obtain ⟨rfl, rfl, rfl⟩ := trodAll_nil r1
  obtain rfl : args = #[v0, v1] := by cases args; simp_all
  obtain ⟨rfl, rfl⟩ := trodVars_none hV
  obtain ⟨b, rfl, rfl, rfl, wb⟩ := open_int Try.underlying5 (hval 1 5 v1 rfl rfl) h1
  obtain ⟨ao, al, ac, rfl⟩ := okWide_slice Try.underlying29 (hval 0 29 v0 rfl rfl)
  have h0k := h0
  have hlt : ∀ x ∈ p0, x.block < W.heap.size := fun x hx => by simpa using hW'.lt x (by simp [hx])
  simp only [List.append_nil] at hW'
  have key : ∀ l : List UInt8, l.length ≤ maxLen → Rg.InB W (.slice ao al ac) l → Calls Try.prog 4 #[.slice ao al ac, .int .u8 b] W fun e W' => ∃ v, e = .returned v ∧ Rows.regexSetsSpec.post enc Try.prog Try.f4 false true false false W #[.slice ao al ac, .int .u8 b] v W' := by
    intro l hl hin
    have hc := Rg.sets_calls (.slice ao al ac) l (UInt8.ofNat b.toNat) W hin hl
    rw [← Rg.byte_of wb] at hc
    refine hc.mono fun e W' ⟨he, hb⟩ => ?_
    subst he
    exact ⟨_, rfl, _, _, _, [], p0, [], hW', (trodAll_cons_mk (shut_bool Try.underlying4 _) trodAll_mk0), (by have := trodAll_cons_mk (Below.trod rsLaid (by kernel_rfl) (of_decide_eq_true (by kernel_rfl)) h0k hb hlt) (trodAll_cons_mk (shut_int Try.underlying5 wb) trodAll_mk0); simp only [List.append_nil] at this; exact this), rfl, hb.frame _, fun h => by cases h⟩
  obtain ⟨fuel, hf⟩ := h0
  rcases open_ints Try.underlying29 Try.underlying5 (by kernel_rfl) hf with ⟨hcs, hx⟩ | ⟨ad, len, cap, zs, hcs, _, hlc, hcm, hzs, hx, hcell, hw⟩
  · simp only [Value.cells, List.cons.injEq, and_true] at hcs
    exact key [] (by simp) (.inl ⟨0, hcs, rfl⟩)
  · simp only [Value.cells, List.cons.injEq, and_true] at hcs
    obtain ⟨l, hl, hin⟩ := Rg.inB_of (cap := cap) (len := len) (by simp at hzs; omega) hcell hw
    exact key l (by omega) (by rw [hcs]; exact hin)

theorem regexSets_holds : Rows.RegexSetsSaid :=
  OpenClaim.holds_of_wide 4 Try.f4 rfl rfl rfl rfl rfl rfl rfl ⟨rfl, rfl, rfl, rfl, rfl⟩ rfl rfl rfl rfl rfl (by kernel_rfl) Try.func4 (by kernel_rfl)
    (of_decide_eq_true (by kernel_rfl)) (by unfold Func.isWrapper; first | (rw [if_pos (by decide +kernel)]; kernel_rfl) | (rw [if_neg (by decide +kernel)]; exact ⟨rfl, rfl⟩))
    (fun os started H enc _ => rsLifted os started H enc)
end Go.Proofs.Ytokcffkffcfolaa
