/-
  MatchTextsSaid: for any two matchers the law MatchTexts returns true and leaves its arguments as they were.
-/
import Derived.Test.YtokcffkffcfolaaRows
import Derived.Test.YtokcffkffcfolaaMbE
import Derived.WalkKit
import Derived.ProofKit
import Derived.OpenShut
import Derived.Lib.SmallJoins
import Derived.JoinedCond
namespace Go.Proofs.Ytokcffkffcfolaa
open Go Go.Joins Go.ChangeShapes Go.WideShapes Go.ChangeAt Go.RowKit
open Go.ChangeMaps (open_string shut_string)

theorem mtLaid : laidOutB Try.prog = true := by kernel_rfl
theorem mtOwn : ownKnob Try.prog.godebug = none := by kernel_rfl
set_option maxRecDepth 100000 in
/-- A matcher that came in by value. -/
theorem open_mr {H : Type} {enc : TypeId × Value → H} {W : World} {r : Reach} {b0 : Nat} {v : Value} {d : DataW H} {p : List MemPlace} (hv : Value.okWide Try.prog W r b0 48 v) (h : DataW.Trod enc Try.prog W 0 (fun _ => true) true 48 v d p) :
    ∃ m : Ma.Mr, v = .agg #[.int .i64 m.kind, .string m.name, .string m.value] := by
  obtain ⟨v0, v1, v2, y0, y1, y2, n, rfl, _, _, h0, h1, h2⟩ := open_agg3 Try.underlying48 (by kernel_rfl) (by kernel_rfl) hv h
  obtain ⟨z, e0, _⟩ := DataW.trod_int Try.underlying3 h0
  obtain ⟨s, e1, _⟩ := DataW.trod_string Try.underlying9 h1
  obtain ⟨u, e2, _⟩ := DataW.trod_string Try.underlying9 h2
  simp only [List.cons.injEq, and_true] at e0 e1 e2
  subst e0 e1 e2
  exact ⟨⟨z, s, u⟩, rfl⟩
set_option maxRecDepth 100000 in
theorem mtLifted (os : Os) (started : os.Started) (H : Type) (enc : TypeId × Value → H) :
    ReturnsInHanded {} Try.checked os 9 .any (Rows.matchTextsSpec.pre6 enc Try.prog Try.f9 Rows.matchTextsRow.domain false) (Rows.matchTextsSpec.post enc Try.prog Try.f9 false true false false) := by
  refine returnsInHanded_of_change (C := Try.checked) mtOwn started (by kernel_rfl) Try.func9
    (ChangeSpec.witness6 (enc := enc) (C := Try.checked) false ⟨#[], #[.agg #[.int .i64 0, .string ⟨#[]⟩, .string ⟨#[]⟩], .agg #[.int .i64 0, .string ⟨#[]⟩, .string ⟨#[]⟩]], []⟩ 8 (by kernel_rfl) (by kernel_rfl) (by kernel_rfl) (by kernel_rfl)) ?_
  intro W base args ds gs before hval0 hW hcnd _
  have hval : ∀ (j : Nat) t v, Try.f9.params[j]? = some t → args[j]? = some v → Value.okWide Try.prog W .any base t v := hval0
  have hW' := hW
  obtain ⟨p, q, hA0, hV, rfl, hfz, hnd⟩ := hW
  have hA : DataW.TrodAll enc Try.prog W 0 (fun _ => true) true Try.f9.params.toList args.toList ds p := hA0
  rw [Try.params9] at hA hval
  obtain ⟨v0, vs0, d0, ds0, p0, q0, ha0, rfl, rfl, h0, r0⟩ := trodAll_cons hA
  obtain ⟨v1, vs1, d1, ds1, p1, q1, rfl, rfl, rfl, h1, r1⟩ := trodAll_cons r0
  obtain ⟨rfl, rfl, rfl⟩ := trodAll_nil r1
  obtain rfl : args = #[v0, v1] := by cases args; simp_all
  obtain ⟨rfl, rfl⟩ := trodVars_none hV
  obtain ⟨a, rfl⟩ := open_mr (hval 0 48 v0 rfl rfl) h0
  obtain ⟨b, rfl⟩ := open_mr (hval 1 48 v1 rfl rfl) h1
  have hlt0 : ∀ x ∈ p0, x.block < W.heap.size := fun x hx => by simpa using hW'.lt x (by simp [hx])
  have hlt1 : ∀ x ∈ p1, x.block < W.heap.size := fun x hx => by simpa using hW'.lt x (by simp [hx])
  clear hA0 hval0
  simp only [List.append_nil] at hW'
  refine (Ma.texts_calls a b W).mono fun e W' ⟨he, hb⟩ => ?_
  subst he
  exact ⟨_, rfl, _, _, _, [], p0 ++ p1, [], hW', (trodAll_cons_mk (shut_bool Try.underlying4 _) trodAll_mk0), (by have := trodAll_cons_mk (Below.trod mtLaid (by kernel_rfl) (of_decide_eq_true (by kernel_rfl)) h0 hb hlt0) (trodAll_cons_mk (Below.trod mtLaid (by kernel_rfl) (of_decide_eq_true (by kernel_rfl)) h1 hb hlt1) trodAll_mk0); simp only [List.append_nil] at this; exact this), rfl, hb.frame _, fun h => by cases h⟩

theorem matchTexts_holds : Rows.MatchTextsSaid :=
  OpenClaim.holds_of_wide 9 Try.f9 rfl rfl rfl rfl rfl rfl rfl ⟨rfl, rfl, rfl, rfl, rfl⟩ rfl rfl rfl rfl rfl (by kernel_rfl) Try.func9 (by kernel_rfl)
    (of_decide_eq_true (by kernel_rfl)) (by unfold Func.isWrapper; first | (rw [if_pos (by decide +kernel)]; kernel_rfl) | (rw [if_neg (by decide +kernel)]; exact ⟨rfl, rfl⟩))
    (fun os started H enc _ => mtLifted os started H enc)
end Go.Proofs.Ytokcffkffcfolaa
