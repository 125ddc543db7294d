/-
  The two texts are read.
-/
import Derived.Test.YtjddnchenhnemaaGreatDoorPsR
import Derived.Test.YtjddnchenhnemaaGreatDoorPsU
namespace Go.Proofs.YtjddnchenhnemaaGreatDoor.Ps
open Go Go.RowKit Go.Proofs.YtjddnchenhnemaaGreatDoor.QT Go.Proofs.YtjddnchenhnemaaGreatDoor.Rg Go.Proofs.YtjddnchenhnemaaGreatDoor.Ma Go.Proofs.YtjddnchenhnemaaGreatDoor.Ir Go.Proofs.YtjddnchenhnemaaGreatDoor.Pm Go.Proofs.YtjddnchenhnemaaGreatDoor.Le
set_option maxHeartbeats 4000000
set_option maxRecDepth 100000
def tRate : ByteArray := ⟨#[114, 97, 116, 101]⟩
def tM : ByteArray := ⟨#[109]⟩
theorem free_rate : Free tRate := ⟨by decide +kernel, by decide +kernel, by decide +kernel, by decide +kernel, by decide +kernel⟩
theorem free_m : Free tM := ⟨by decide +kernel, by decide +kernel, by decide +kernel, by decide +kernel, by decide +kernel⟩
abbrev EA (g : Nat) (v : Value) : Env := ⟨g, v, sA_ts, (sA.size : Int), false⟩
abbrev EB (g : Nat) (v : Value) : Env := ⟨g, v, sB_ts, (sB.size : Int), false⟩
def treeA : Xn := callT 0 tRate (.snoc .nil (selT 4 5 tM 300000))
def treeB : Xn := binT 2 1 (.snoc (.snoc .nil (numT 0 4607182418800017408)) (callT 4 tRate (.snoc .nil (selT 3 9 tM 0))))
theorem selA (g : Nat) (v : Value) (d : Nat) (W : World) (hP : PS (EA g v) W 2 d) : Calls Tryz.prog 23 #[.pointer (some ⟨g, 0, none⟩)] W (ReadsTo (EA g v) (selT 4 5 tM 300000) 6 d W) :=
  query_two hP rfl fun _ hP => binary_none hP 2 (fun _ hP => op_none hP 2 (.inr rfl) (of_decide_eq_true (by kernel_rfl))) fun _ hP => unary_none hP (by kernel_rfl) fun _ hP => postfix_none hP (by kernel_rfl) fun _ hP => primary_word hP rfl fun _ hP => named_sel ((EA g v).tk 2) hP free_m (by kernel_rfl) fun _ hP =>
    selector_range hP (of_decide_eq_true (by kernel_rfl)) rfl (of_decide_eq_true (by kernel_rfl)) (by kernel_rfl) (by kernel_rfl) (by kernel_rfl) (of_decide_eq_true (by kernel_rfl)) rfl (by kernel_rfl) (by kernel_rfl)
theorem queryA (g : Nat) (v : Value) (W : World) (hP : PS (EA g v) W 0 0) : Calls Tryz.prog 23 #[.pointer (some ⟨g, 0, none⟩)] W (ReadsTo (EA g v) treeA 7 0 W) :=
  query_two hP rfl fun _ hP => binary_none hP 2 (fun _ hP => op_strange hP 2 (of_decide_eq_true (by kernel_rfl)) (of_decide_eq_true (by kernel_rfl))) fun _ hP => unary_none hP (by kernel_rfl) fun _ hP => postfix_none hP (by kernel_rfl) fun _ hP => primary_word hP rfl fun _ hP => named_call ((EA g v).tk 0) hP free_rate (by kernel_rfl) fun _ hP =>
    kids_calls hP (of_decide_eq_true (by kernel_rfl)) (by kernel_rfl) (by kernel_rfl) (by kernel_rfl) fun W hP => selA g v 1 W hP
theorem selB (g : Nat) (v : Value) (d : Nat) (W : World) (hP : PS (EB g v) W 4 d) : Calls Tryz.prog 23 #[.pointer (some ⟨g, 0, none⟩)] W (ReadsTo (EB g v) (selT 3 9 tM 0) 5 d W) :=
  query_two hP rfl fun _ hP => binary_none hP 2 (fun _ hP => op_none hP 2 (.inr rfl) (of_decide_eq_true (by kernel_rfl))) fun _ hP => unary_none hP (by kernel_rfl) fun _ hP => postfix_none hP (by kernel_rfl) fun _ hP => primary_word hP rfl fun _ hP => named_sel ((EB g v).tk 4) hP free_m (by kernel_rfl) fun _ hP =>
    selector_plain hP (of_decide_eq_true (by kernel_rfl)) rfl (of_decide_eq_true (by kernel_rfl)) (by kernel_rfl) (by kernel_rfl) (by kernel_rfl) (by kernel_rfl)
theorem rateB (g : Nat) (v : Value) (W : World) (hP : PS (EB g v) W 2 0) : Calls Tryz.prog 44 #[.pointer (some ⟨g, 0, none⟩), .int .i64 (levelJ (1 : Nat) + 1)] W (ReadsTo (EB g v) (callT 4 tRate (.snoc .nil (selT 3 9 tM 0))) 6 0 W) :=
  binary_none hP _ (fun _ hP => op_strange hP _ (of_decide_eq_true (by kernel_rfl)) (of_decide_eq_true (by kernel_rfl))) fun _ hP => unary_none hP (by kernel_rfl) fun _ hP => postfix_none hP (by kernel_rfl) fun _ hP => primary_word hP rfl fun _ hP => named_call ((EB g v).tk 2) hP free_rate (by kernel_rfl) fun _ hP =>
    kids_calls hP (of_decide_eq_true (by kernel_rfl)) (by kernel_rfl) (by kernel_rfl) (by kernel_rfl) fun W hP => selB g v 1 W hP
theorem queryB (g : Nat) (v : Value) (W : World) (hP : PS (EB g v) W 0 0) : Calls Tryz.prog 23 #[.pointer (some ⟨g, 0, none⟩)] W (ReadsTo (EB g v) treeB 6 0 W) :=
  query_two hP rfl fun _ hP => binary_one (j := 1) hP 2 1 (of_decide_eq_true (by kernel_rfl)) (of_decide_eq_true (by kernel_rfl)) (of_decide_eq_true (by kernel_rfl)) (fun _ hP => op_yes hP 2 (.inr rfl) 1 (of_decide_eq_true (by kernel_rfl)) (of_decide_eq_true (by kernel_rfl)) (of_decide_eq_true (by kernel_rfl)) (of_decide_eq_true (by kernel_rfl))) (fun _ hP => op_strange hP 2 (of_decide_eq_true (by kernel_rfl)) (of_decide_eq_true (by kernel_rfl))) (by kernel_rfl) (by kernel_rfl) (by kernel_rfl)
    (fun _ hP => unary_none hP (by kernel_rfl) fun _ hP => postfix_none hP (by kernel_rfl) fun _ hP => primary_num hP (of_decide_eq_true (by kernel_rfl)) rfl) (fun W hP => rateB g v W hP)
theorem parseA (W : World) : Calls Tryz.prog 9 #[.string sA] W (ParsePost treeA W) :=
  Parse_calls sA treeA (fun _ => True) (fun _ _ _ _ => trivial) (fun W h => parse_calls (fun _ => True) (fun _ _ _ _ => trivial) sA sA_ts treeA (by decide) (by decide) sA_toks (by decide) (by decide) (fun g v W hP => queryA g v W hP) W h) W trivial
theorem parseB (W : World) (hT : Tabs W) : Calls Tryz.prog 9 #[.string sB] W (ParsePost treeB W) :=
  Parse_calls sB treeB Tabs Tabs.below (fun W h => parse_calls Tabs Tabs.below sB sB_ts treeB (by decide) (by decide) sB_toks (by decide) (by decide) (fun g v W hP => queryB g v W hP) W h) W hT
end Go.Proofs.YtjddnchenhnemaaGreatDoor.Ps
