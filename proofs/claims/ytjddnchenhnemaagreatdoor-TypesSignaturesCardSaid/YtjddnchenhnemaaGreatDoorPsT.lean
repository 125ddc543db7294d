/-
  The tokens of the two texts.
-/
import Derived.Test.YtjddnchenhnemaaGreatDoorPsS
import Derived.Test.YtjddnchenhnemaaGreatDoorPsB
namespace Go.Proofs.YtjddnchenhnemaaGreatDoor.Ps
open Go Go.RowKit Go.Proofs.YtjddnchenhnemaaGreatDoor.QT Go.Proofs.YtjddnchenhnemaaGreatDoor.Rg Go.Proofs.YtjddnchenhnemaaGreatDoor.Ma Go.Proofs.YtjddnchenhnemaaGreatDoor.Ir Go.Proofs.YtjddnchenhnemaaGreatDoor.Le
set_option maxHeartbeats 4000000
set_option maxRecDepth 100000
def NumPost (W : World) (t : Tk) (e : Ending) (W' : World) : Prop := e = .returned (.tuple #[.agg (ta t), .bool true]) ∧ Below W.heap.size W W'
theorem e5 : sA.extract 7 9 = s5m := by decide +kernel
theorem e1 : sB.extract 0 1 = s1 := by decide +kernel
theorem numberA (w : World) : Calls Tryz.prog 64 #[.string sA, .int .i64 7, .int .i64 9] w (NumPost w ⟨3, 7, s5m, 0, 300000⟩) := by
  have z := sA_size
  have x := e5
  have hst := run_store_float
  go_enter Tryz.func64, Tryz.ntmps64
  go_wp2_with ((with_reducible refine (duration_5m _).mono ?_); rintro e w' ⟨rfl, rfl⟩)
  exact bodyPost_ret (v := .tuple #[.agg #[.int .i64 3, .int .i64 7, .string s5m, .float .f64 0, .int .i64 300000], .bool true]) (by simp [results, Tryz.results64, go_sem]) rfl ⟨rfl, ((Below.refl _ _).alloc (Nat.le_refl _) _).alloc (by simp) _⟩
theorem numberB (w : World) (hT : Tabs w) : Calls Tryz.prog 64 #[.string sB, .int .i64 0, .int .i64 1] w (NumPost w ⟨2, 0, s1, 4607182418800017408, 0⟩) := by
  have z := sB_size
  have x := e1
  have hst := run_store_float
  have HT := Lib.hid hT
  clear hT
  go_enter Tryz.func64, Tryz.ntmps64
  go_wp2_with (first | ((with_reducible refine (duration_1 _).mono ?_); rintro e w' ⟨rfl, rfl⟩) | fail)
  refine (parse_1 _ (HT.out.below _ _ (((Below.refl _ _).alloc (Nat.le_refl _) _).alloc (by simp) _))).mono ?_
  rintro e w' ⟨rfl, rfl⟩
  go_wp2_with fail
  exact bodyPost_ret (v := .tuple #[.agg #[.int .i64 2, .int .i64 0, .string s1, .float .f64 4607182418800017408, .int .i64 0], .bool true]) (by simp [results, Tryz.results64, go_sem]) rfl ⟨rfl, ((Below.refl _ _).alloc (Nat.le_refl _) _).alloc (by simp) _⟩
theorem results_tok {fn : Func} {p : Nat} {s1 s2 : Nat} (h : fn.results = #[.cell p 86, .tmp s1, .tmp s2]) (tmps : Array Value) (w : World) (g : Nat) (cs : Array Value)
    (hp : tmps.getD p undef = .pointer (some ⟨g, 0, none⟩)) (hg : w.heap[g]? = some (.cells cs 86 (0, 0))) (hc : cs.size = 5) (u v : Value) (h1 : tmps.getD s1 undef = u) (h2 : tmps.getD s2 undef = v) :
    (results fn tmps).run Tryz.prog w = .ok (.tuple #[.agg cs, u, v]) w := by
  have hp' : tmps[p]?.getD undef = .pointer (some ⟨g, 0, none⟩) := by simpa using hp
  have h1' : tmps[s1]?.getD undef = u := by simpa using h1
  have h2' : tmps[s2]?.getD undef = v := by simpa using h2
  simp [results, h, hp', h1', h2', asAddr, run_loadVar_row w g 86 86 cs (0, 0) _ hg Tryz.underlying86 rfl (by rw [sizeTok, hc])]
theorem next_num (T : World → Prop) (hTB : ∀ W W', T W → Below W.heap.size W W' → T W') (s : ByteArray) (i a j c : Nat) (t : Tk) (hs : s.size ≤ 4096) (hi : i ≤ s.size) (hP : PassTo s i a) (hc : By s a c) (hl : letterB c = false) (hd : digitB c = true)
    (hW : ∀ W, Calls Tryz.prog 63 #[.string s, .int .i64 (a : Int)] W (RetI j W)) (hN : ∀ W, T W → Calls Tryz.prog 64 #[.string s, .int .i64 (a : Int), .int .i64 (j : Int)] W (NumPost W t)) (W : World) (hT : T W) :
    Calls Tryz.prog 43 #[.string s, .int .i64 (i : Int)] W (NextPost W t j) := by
  have b := hc.get
  have ha := hc.1
  have h255 := hc.2.1
  have hst := run_store_float
  have LC := letter_calls c h255
  rw [hl] at LC
  have LL := Lib.hid LC; clear LC hl
  have DC := digit_calls c h255
  rw [hd] at DC
  have DD := Lib.hid DC; clear DC hd
  have HP := Lib.hid hP; clear hP
  have HW := Lib.hid hW; clear hW
  have HN := Lib.hid (hN (W.alloc (.cells #[.int .i64 0, .int .i64 0, .string ⟨#[]⟩, .float .f64 0, .int .i64 0] 86)) (hTB _ _ hT ((Below.refl _ _).alloc (Nat.le_refl _) _)))
  have t0 : ((a : Int) == (s.size : Int)) = false := by rw [beq_eq_false_iff_ne]; omega
  have HC := Lib.hid hc; clear hc hN hT hTB
  go_enter Tryz.func43, Tryz.ntmps43
  go_wp2_with (first | (go_at_call 59; refine (HP.out _).mono ?_; rintro e w' ⟨rfl, rfl⟩) | (go_at_call 60; refine (LL.out _).mono ?_; rintro e w' ⟨rfl, rfl⟩) | (go_at_call 62; refine (DD.out _).mono ?_; rintro e w' ⟨rfl, rfl⟩) | (go_at_call 63; refine (HW.out _).mono ?_; rintro e w' ⟨rfl, rfl⟩))
  (with_reducible refine HN.out.mono ?_)
  rintro e W2 ⟨rfl, hb⟩
  have hN2 := (hb.block W.heap.size (by simp)).trans (blk_new W (.cells tz 86))
  have HN2 := Lib.hid (blk_alloc hN2 (.cells (ta t) 86))
  have hs2 := hb.size
  have HB := Lib.hid ((((Below.refl W.heap.size W).alloc (Nat.le_refl _) _).trans (hb.mono (by simp))).alloc (by simp at hs2; omega) (.cells (ta t) 86))
  clear hb hN2 hs2
  unfold ta
  go_wp2_with (refine wpList_setA sizeTok rfl _ _ rfl W.heap.size tz (ta t) HN2.out rfl rfl rfl rfl (by simp [ta, Value.oneCell']) ?_)
  refine bodyPost_ret_by (results_tok rfl _ _ W.heap.size (ta t) rfl (setRow_heap _ _ _ _ _ _ HN2.out) rfl _ _ rfl rfl) rfl ?_
  exact ⟨rfl, below_row HB.out (Nat.le_refl _) _⟩
end Go.Proofs.YtjddnchenhnemaaGreatDoor.Ps
