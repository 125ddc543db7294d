/-
  RegexMatchesSaid: for every text s and every slice of texts the law RegexMatches returns true and leaves its arguments as they were.
-/
import Derived.Test.YtokcffkffcfolaaRows
import Derived.Test.YtokcffkffcfolaaRjL
import Derived.WalkKit
import Derived.ProofKit
import Derived.OpenShut
import Derived.SliceStrings
import Derived.JoinedCond
namespace Go.Proofs.Ytokcffkffcfolaa
open Go Go.ChangeShapes Go.WideShapes Go.ChangeAt Go.RowKit
open Go.ChangeMaps (open_string shut_string)

theorem rmLaid : laidOutB Try.prog = true := by kernel_rfl
theorem rmOwn : ownKnob Try.prog.godebug = none := by kernel_rfl
set_option maxRecDepth 100000 in
theorem rmLifted (os : Os) (started : os.Started) (H : Type) (enc : TypeId × Value → H) :
    ReturnsInHanded {} Try.checked os 7 .any (Rows.regexMatchesSpec.pre6 enc Try.prog Try.f7 Rows.regexMatchesRow.domain false) (Rows.regexMatchesSpec.post enc Try.prog Try.f7 false true false false) := by
  refine returnsInHanded_of_change (C := Try.checked) rmOwn started (by kernel_rfl) Try.func7
    (ChangeSpec.witness6 (enc := enc) (C := Try.checked) false ⟨#[], #[.string ⟨#[]⟩, .slice none 0 0], []⟩ 8 (by kernel_rfl) (by kernel_rfl) (by kernel_rfl) (by kernel_rfl)) ?_
  intro W base args ds gs before hval0 hW hcnd _
  have hval : ∀ (j : Nat) t v, Try.f7.params[j]? = some t → args[j]? = some v → Value.okWide Try.prog W .any base t v := hval0
  have hW' := hW
  obtain ⟨p, q, hA0, hV, rfl, hfz, hnd⟩ := hW
  have hA : DataW.TrodAll enc Try.prog W 0 (fun _ => true) true Try.f7.params.toList args.toList ds p := hA0
  rw [Try.params7] at hA hval
  obtain ⟨v0, vs0, d0, ds0, p0, q0, ha0, rfl, rfl, h0, r0⟩ := trodAll_cons hA
  obtain ⟨v1, vs1, d1, ds1, p1, q1, rfl, rfl, rfl, h1, r1⟩ := trodAll_cons r0
  obtain ⟨rfl, rfl, rfl⟩ := trodAll_nil r1
  obtain rfl : args = #[v0, v1] := by cases args; simp_all
  obtain ⟨rfl, rfl⟩ := trodVars_none hV
  obtain ⟨s, rfl, rfl, rfl, ws⟩ := open_string Try.underlying9 (hval 0 9 v0 rfl rfl) h0
  obtain ⟨ao, al, ac, rfl⟩ := okWide_slice Try.underlying34 (hval 1 34 v1 rfl rfl)
  have h1k := h1
  have hlt : ∀ x ∈ p1, x.block < W.heap.size := fun x hx => by simpa using hW'.lt x (by simp [hx])
  clear hA0 hval0
  simp only [List.append_nil, List.nil_append] at hW'
  have key : ∀ l : List ByteArray, l.length ≤ maxLen → Rh.InS W (.slice ao al ac) l → Calls Try.prog 7 #[.string s, .slice ao al ac] W fun e W' => ∃ v, e = .returned v ∧ Rows.regexMatchesSpec.post enc Try.prog Try.f7 false true false false W #[.string s, .slice ao al ac] v W' := by
    intro l hl hin
    refine (Rh.rxmatches_calls s (.slice ao al ac) l W ws hin hl).mono fun e W' ⟨he, hb⟩ => ?_
    subst he
    exact ⟨_, rfl, _, _, _, [], p1, [], hW', (trodAll_cons_mk (shut_bool Try.underlying4 _) trodAll_mk0), (by have := trodAll_cons_mk (shut_string Try.underlying9 ws) (trodAll_cons_mk (Below.trod rmLaid (by kernel_rfl) (of_decide_eq_true (by kernel_rfl)) h1k hb hlt) trodAll_mk0); simp only [List.append_nil, List.nil_append] at this; exact this), rfl, hb.frame _, fun h => by cases h⟩
  obtain ⟨fuel, hf⟩ := h1
  rcases open_strings Try.underlying34 Try.underlying9 (by kernel_rfl) hf with ⟨hcs, hx⟩ | ⟨ad, len, cap, ss, hcs, _, hlc, hcm, hzs, hx, hcell, hw⟩
  · simp only [Value.cells, List.cons.injEq, and_true] at hcs
    exact key [] (by simp) (.inl ⟨0, hcs, rfl⟩)
  · simp only [Value.cells, List.cons.injEq, and_true] at hcs
    simp only [if_true] at hzs
    have hl : (ss.take len).length = len := by simp; omega
    refine key (ss.take len) (by rw [hl]; omega) (.inr ⟨ad, cap, by rw [hl]; exact hcs, fun i hi => ?_⟩)
    have hi' : i < ss.length := by rw [hl] at hi; omega
    rw [hcell i hi', List.getElem_take, List.getD, List.getElem?_eq_getElem hi']
    rfl

theorem regexMatches_holds : Rows.RegexMatchesSaid :=
  OpenClaim.holds_of_wide 7 Try.f7 rfl rfl rfl rfl rfl rfl rfl ⟨rfl, rfl, rfl, rfl, rfl⟩ rfl rfl rfl rfl rfl (by kernel_rfl) Try.func7 (by kernel_rfl)
    (of_decide_eq_true (by kernel_rfl)) (by unfold Func.isWrapper; first | (rw [if_pos (by decide +kernel)]; kernel_rfl) | (rw [if_neg (by decide +kernel)]; exact ⟨rfl, rfl⟩))
    (fun os started H enc _ => rmLifted os started H enc)
end Go.Proofs.Ytokcffkffcfolaa
