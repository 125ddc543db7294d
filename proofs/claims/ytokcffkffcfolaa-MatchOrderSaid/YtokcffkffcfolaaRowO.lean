/-
  MatchOrderSaid: for every slice of matchers, every matcher more, every slice of labels the law MatchOrder returns true and leaves its arguments as they were.
-/
import Derived.Test.YtokcffkffcfolaaRows
import Derived.Test.YtokcffkffcfolaaMcC
import Derived.WalkKit
import Derived.ProofKit
import Derived.OpenShut
import Derived.Lib.SmallJoins
import Derived.JoinedCond
namespace Go.Proofs.Ytokcffkffcfolaa
open Go Go.Joins Go.ChangeShapes Go.WideShapes Go.ChangeAt Go.RowKit
open Go.ChangeMaps (open_string shut_string)

theorem moLaid : laidOutB Try.prog = true := by kernel_rfl
theorem moOwn : ownKnob Try.prog.godebug = none := by kernel_rfl
set_option maxRecDepth 100000 in
/-- A matcher that came in by value. -/
theorem open_mro {H : Type} {enc : TypeId × Value → H} {W : World} {r : Reach} {b0 : Nat} {v : Value} {d : DataW H} {p : List MemPlace} (hv : Value.okWide Try.prog W r b0 48 v) (h : DataW.Trod enc Try.prog W 0 (fun _ => true) true 48 v d p) :
    ∃ m : Ma.Mr, v = .agg #[.int .i64 m.kind, .string m.name, .string m.value] := by
  obtain ⟨v0, v1, v2, y0, y1, y2, n, rfl, _, _, h0, h1, h2⟩ := open_agg3 Try.underlying48 (by kernel_rfl) (by kernel_rfl) hv h
  obtain ⟨z, e0, _⟩ := DataW.trod_int Try.underlying3 h0
  obtain ⟨s, e1, _⟩ := DataW.trod_string Try.underlying9 h1
  obtain ⟨u, e2, _⟩ := DataW.trod_string Try.underlying9 h2
  simp only [List.cons.injEq, and_true] at e0 e1 e2
  subst e0 e1 e2
  exact ⟨⟨z, s, u⟩, rfl⟩
set_option maxRecDepth 100000 in
theorem moLifted (os : Os) (started : os.Started) (H : Type) (enc : TypeId × Value → H) :
    ReturnsInHanded {} Try.checked os 10 .any (Rows.matchOrderSpec.pre6 enc Try.prog Try.f10 Rows.matchOrderRow.domain false) (Rows.matchOrderSpec.post enc Try.prog Try.f10 false true false false) := by
  refine returnsInHanded_of_change (C := Try.checked) moOwn started (by kernel_rfl) Try.func10
    (ChangeSpec.witness6 (enc := enc) (C := Try.checked) false ⟨#[], #[.slice none 0 0, .agg #[.int .i64 0, .string ⟨#[]⟩, .string ⟨#[]⟩], .slice none 0 0], []⟩ 8 (by kernel_rfl) (by kernel_rfl) (by kernel_rfl) (by kernel_rfl)) ?_
  intro W base args ds gs before hval0 hW hcnd _
  have hval : ∀ (j : Nat) t v, Try.f10.params[j]? = some t → args[j]? = some v → Value.okWide Try.prog W .any base t v := hval0
  have hW' := hW
  obtain ⟨p, q, hA0, hV, rfl, hfz, hnd⟩ := hW
  have hA : DataW.TrodAll enc Try.prog W 0 (fun _ => true) true Try.f10.params.toList args.toList ds p := hA0
  rw [Try.params10] at hA hval
  obtain ⟨v0, vs0, d0, ds0, p0, q0, ha0, rfl, rfl, h0, r0⟩ := trodAll_cons hA
  obtain ⟨v1, vs1, d1, ds1, p1, q1, rfl, rfl, rfl, h1, r1⟩ := trodAll_cons r0
  obtain ⟨v2, vs2, d2, ds2, p2, q2, rfl, rfl, rfl, h2, r2⟩ := trodAll_cons r1
  obtain ⟨rfl, rfl, rfl⟩ := trodAll_nil r2
  obtain rfl : args = #[v0, v1, v2] := by cases args; simp_all
  obtain ⟨rfl, rfl⟩ := trodVars_none hV
  obtain ⟨ao, al, ac, rfl⟩ := okWide_slice Try.underlying50 (hval 0 50 v0 rfl rfl)
  obtain ⟨m, rfl⟩ := open_mro (hval 1 48 v1 rfl rfl) h1
  obtain ⟨bo, bl, bc, rfl⟩ := okWide_slice Try.underlying54 (hval 2 54 v2 rfl rfl)
  have hlt0 : ∀ x ∈ p0, x.block < W.heap.size := fun x hx => by simpa using hW'.lt x (by simp [hx])
  have hlt1 : ∀ x ∈ p1, x.block < W.heap.size := fun x hx => by simpa using hW'.lt x (by simp [hx])
  have hlt2 : ∀ x ∈ p2, x.block < W.heap.size := fun x hx => by simpa using hW'.lt x (by simp [hx])
  have h0k := h0
  have h2k := h2
  obtain ⟨f0, g0⟩ := h0
  obtain ⟨f2, g2⟩ := h2
  obtain ⟨l, hl, hR⟩ := Ma.open_rowM g0
  obtain ⟨s, hs, hRs⟩ := Ma.open_rowL g2
  clear hA0 hval0
  simp only [List.append_nil] at hW'
  refine (Ma.order_calls _ l m _ s W hR hRs hl hs).mono fun e W' ⟨he, hb⟩ => ?_
  subst he
  exact ⟨_, rfl, _, _, _, [], p0 ++ (p1 ++ p2), [], hW', (trodAll_cons_mk (shut_bool Try.underlying4 _) trodAll_mk0), (by have := trodAll_cons_mk (Below.trod moLaid (by kernel_rfl) (of_decide_eq_true (by kernel_rfl)) h0k hb hlt0) (trodAll_cons_mk (Below.trod moLaid (by kernel_rfl) (of_decide_eq_true (by kernel_rfl)) h1 hb hlt1) (trodAll_cons_mk (Below.trod moLaid (by kernel_rfl) (of_decide_eq_true (by kernel_rfl)) h2k hb hlt2) trodAll_mk0)); simp only [List.append_nil] at this; exact this), rfl, hb.frame _, fun h => by cases h⟩

theorem matchOrder_holds : Rows.MatchOrderSaid :=
  OpenClaim.holds_of_wide 10 Try.f10 rfl rfl rfl rfl rfl rfl rfl ⟨rfl, rfl, rfl, rfl, rfl⟩ rfl rfl rfl rfl rfl (by kernel_rfl) Try.func10 (by kernel_rfl)
    (of_decide_eq_true (by kernel_rfl)) (by unfold Func.isWrapper; first | (rw [if_pos (by decide +kernel)]; kernel_rfl) | (rw [if_neg (by decide +kernel)]; exact ⟨rfl, rfl⟩))
    (fun os started H enc _ => moLifted os started H enc)
end Go.Proofs.Ytokcffkffcfolaa
