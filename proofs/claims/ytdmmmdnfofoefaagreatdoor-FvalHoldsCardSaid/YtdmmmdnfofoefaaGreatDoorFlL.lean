/-
  The statements FvalOrder and FvalHolds: their walks.
-/
import Derived.Test.YtdmmmdnfofoefaaGreatDoorFlK
import Derived.Test.YtdmmmdnfofoefaaGreatDoorFlQ
namespace Go.Proofs.YtdmmmdnfofoefaaGreatDoor.Fl
open Go Go.RowKit
set_option maxHeartbeats 8000000
set_option maxRecDepth 100000

theorem order_calls (x y z : Nat) (hx : x < 18446744073709551616) (hy : y < 18446744073709551616) (hz : z < 18446744073709551616) (W : World) (hL : Laid W) :
    Calls Tryz.prog 5 #[.int .u64 x, .int .u64 y, .int .u64 z] W (LawPost W) := by
  have hf := run_frombits
  have HK := Lib.hid (known_calls W hL)
  have HX := Lib.hid hx
  have HY := Lib.hid hy
  have HZ := Lib.hid hz
  have B0 := Lib.hid (bef_irrefl x)
  have T := bef_tri hx hy
  have TR := @bef_trans x y z
  clear hx hy hz hL
  cases hyz : befB y z
  · have BYZ := Lib.hid hyz
    clear hyz TR
    rcases T with ⟨h1, h2, h3⟩ | ⟨h1, h2, h3⟩ | ⟨h1, h2, h3⟩
    · have H1 := Lib.hid h1
      have H2 := Lib.hid h2
      have H3 := Lib.hid h3
      clear h1 h2 h3
      go_enter Tryz.func5, Tryz.ntmps5
      go_wp2_with fail
      refine HK.out.mono ?_
      rintro e W1 ⟨rfl, hb⟩
      have HB := Lib.hid hb
      clear hb
      go_wp2_with (first | ((with_reducible refine (before_calls x x HX.out HX.out _).mono ?_); rw [B0.out]; rintro e w' ⟨rfl, rfl⟩) | ((with_reducible refine (before_calls x y HX.out HY.out _).mono ?_); rw [H1.out]; rintro e w' ⟨rfl, rfl⟩) | ((with_reducible refine (before_calls y x HY.out HX.out _).mono ?_); rw [H2.out]; rintro e w' ⟨rfl, rfl⟩) | ((with_reducible refine (before_calls y z HY.out HZ.out _).mono ?_); rw [BYZ.out]; rintro e w' ⟨rfl, rfl⟩) | ((with_reducible refine (before_calls x z HX.out HZ.out _).mono ?_); rw [HXZ.out]; rintro e w' ⟨rfl, rfl⟩) | ((with_reducible refine (same_calls x y _).mono ?_); rw [H3.out]; rintro e w' ⟨rfl, rfl⟩) | fail)
      go_ret
      exact ⟨rfl, HB.out⟩
    · have H1 := Lib.hid h1
      have H2 := Lib.hid h2
      have H3 := Lib.hid h3
      clear h1 h2 h3
      go_enter Tryz.func5, Tryz.ntmps5
      go_wp2_with fail
      refine HK.out.mono ?_
      rintro e W1 ⟨rfl, hb⟩
      have HB := Lib.hid hb
      clear hb
      go_wp2_with (first | ((with_reducible refine (before_calls x x HX.out HX.out _).mono ?_); rw [B0.out]; rintro e w' ⟨rfl, rfl⟩) | ((with_reducible refine (before_calls x y HX.out HY.out _).mono ?_); rw [H1.out]; rintro e w' ⟨rfl, rfl⟩) | ((with_reducible refine (before_calls y x HY.out HX.out _).mono ?_); rw [H2.out]; rintro e w' ⟨rfl, rfl⟩) | ((with_reducible refine (before_calls y z HY.out HZ.out _).mono ?_); rw [BYZ.out]; rintro e w' ⟨rfl, rfl⟩) | ((with_reducible refine (before_calls x z HX.out HZ.out _).mono ?_); rw [HXZ.out]; rintro e w' ⟨rfl, rfl⟩) | ((with_reducible refine (same_calls x y _).mono ?_); rw [H3.out]; rintro e w' ⟨rfl, rfl⟩) | fail)
      go_ret
      exact ⟨rfl, HB.out⟩
    · have H1 := Lib.hid h1
      have H2 := Lib.hid h2
      have H3 := Lib.hid h3
      clear h1 h2 h3
      go_enter Tryz.func5, Tryz.ntmps5
      go_wp2_with fail
      refine HK.out.mono ?_
      rintro e W1 ⟨rfl, hb⟩
      have HB := Lib.hid hb
      clear hb
      go_wp2_with (first | ((with_reducible refine (before_calls x x HX.out HX.out _).mono ?_); rw [B0.out]; rintro e w' ⟨rfl, rfl⟩) | ((with_reducible refine (before_calls x y HX.out HY.out _).mono ?_); rw [H1.out]; rintro e w' ⟨rfl, rfl⟩) | ((with_reducible refine (before_calls y x HY.out HX.out _).mono ?_); rw [H2.out]; rintro e w' ⟨rfl, rfl⟩) | ((with_reducible refine (before_calls y z HY.out HZ.out _).mono ?_); rw [BYZ.out]; rintro e w' ⟨rfl, rfl⟩) | ((with_reducible refine (before_calls x z HX.out HZ.out _).mono ?_); rw [HXZ.out]; rintro e w' ⟨rfl, rfl⟩) | ((with_reducible refine (same_calls x y _).mono ?_); rw [H3.out]; rintro e w' ⟨rfl, rfl⟩) | fail)
      go_ret
      exact ⟨rfl, HB.out⟩
  · have BYZ := Lib.hid hyz
    clear hyz
    rcases T with ⟨h1, h2, h3⟩ | ⟨h1, h2, h3⟩ | ⟨h1, h2, h3⟩
    · have HXZ := Lib.hid (TR h1 BYZ.out)
      clear TR
      have H1 := Lib.hid h1
      have H2 := Lib.hid h2
      have H3 := Lib.hid h3
      clear h1 h2 h3
      go_enter Tryz.func5, Tryz.ntmps5
      go_wp2_with fail
      refine HK.out.mono ?_
      rintro e W1 ⟨rfl, hb⟩
      have HB := Lib.hid hb
      clear hb
      go_wp2_with (first | ((with_reducible refine (before_calls x x HX.out HX.out _).mono ?_); rw [B0.out]; rintro e w' ⟨rfl, rfl⟩) | ((with_reducible refine (before_calls x y HX.out HY.out _).mono ?_); rw [H1.out]; rintro e w' ⟨rfl, rfl⟩) | ((with_reducible refine (before_calls y x HY.out HX.out _).mono ?_); rw [H2.out]; rintro e w' ⟨rfl, rfl⟩) | ((with_reducible refine (before_calls y z HY.out HZ.out _).mono ?_); rw [BYZ.out]; rintro e w' ⟨rfl, rfl⟩) | ((with_reducible refine (before_calls x z HX.out HZ.out _).mono ?_); rw [HXZ.out]; rintro e w' ⟨rfl, rfl⟩) | ((with_reducible refine (same_calls x y _).mono ?_); rw [H3.out]; rintro e w' ⟨rfl, rfl⟩) | fail)
      go_ret
      exact ⟨rfl, HB.out⟩
    · clear TR
      have H1 := Lib.hid h1
      have H2 := Lib.hid h2
      have H3 := Lib.hid h3
      clear h1 h2 h3
      go_enter Tryz.func5, Tryz.ntmps5
      go_wp2_with fail
      refine HK.out.mono ?_
      rintro e W1 ⟨rfl, hb⟩
      have HB := Lib.hid hb
      clear hb
      go_wp2_with (first | ((with_reducible refine (before_calls x x HX.out HX.out _).mono ?_); rw [B0.out]; rintro e w' ⟨rfl, rfl⟩) | ((with_reducible refine (before_calls x y HX.out HY.out _).mono ?_); rw [H1.out]; rintro e w' ⟨rfl, rfl⟩) | ((with_reducible refine (before_calls y x HY.out HX.out _).mono ?_); rw [H2.out]; rintro e w' ⟨rfl, rfl⟩) | ((with_reducible refine (before_calls y z HY.out HZ.out _).mono ?_); rw [BYZ.out]; rintro e w' ⟨rfl, rfl⟩) | ((with_reducible refine (before_calls x z HX.out HZ.out _).mono ?_); rw [HXZ.out]; rintro e w' ⟨rfl, rfl⟩) | ((with_reducible refine (same_calls x y _).mono ?_); rw [H3.out]; rintro e w' ⟨rfl, rfl⟩) | fail)
      go_ret
      exact ⟨rfl, HB.out⟩
    · clear TR
      have H1 := Lib.hid h1
      have H2 := Lib.hid h2
      have H3 := Lib.hid h3
      clear h1 h2 h3
      go_enter Tryz.func5, Tryz.ntmps5
      go_wp2_with fail
      refine HK.out.mono ?_
      rintro e W1 ⟨rfl, hb⟩
      have HB := Lib.hid hb
      clear hb
      go_wp2_with (first | ((with_reducible refine (before_calls x x HX.out HX.out _).mono ?_); rw [B0.out]; rintro e w' ⟨rfl, rfl⟩) | ((with_reducible refine (before_calls x y HX.out HY.out _).mono ?_); rw [H1.out]; rintro e w' ⟨rfl, rfl⟩) | ((with_reducible refine (before_calls y x HY.out HX.out _).mono ?_); rw [H2.out]; rintro e w' ⟨rfl, rfl⟩) | ((with_reducible refine (before_calls y z HY.out HZ.out _).mono ?_); rw [BYZ.out]; rintro e w' ⟨rfl, rfl⟩) | ((with_reducible refine (before_calls x z HX.out HZ.out _).mono ?_); rw [HXZ.out]; rintro e w' ⟨rfl, rfl⟩) | ((with_reducible refine (same_calls x y _).mono ?_); rw [H3.out]; rintro e w' ⟨rfl, rfl⟩) | fail)
      go_ret
      exact ⟨rfl, HB.out⟩
theorem holds_law_calls (x y : Nat) (W : World) (hL : Laid W) :
    Calls Tryz.prog 3 #[.int .u64 x, .int .u64 y] W (LawPost W) := by
  have hf := run_frombits
  have HK := Lib.hid (known_calls W hL)
  clear hL
  cases nx : nan x
  · have ox := ord_eq nx nx rfl
    cases ny : nan y
    · have oy := ord_eq ny ny rfl
      rcases Int.lt_trichotomy (key x) (key y) with l | l | l
      · have HO := Lib.hid (show ordO x y = some .lt from ord_lt nx ny l)
        clear l
        have c5 : cmpB 5 (some .lt) = false := rfl
        have c6 : cmpB 6 (some .lt) = true := rfl
        have c7 : cmpB 7 (some .lt) = false := rfl
        have c8 : cmpB 8 (some .lt) = true := rfl
        have c9 : cmpB 9 (some .lt) = false := rfl
        have c10 : cmpB 10 (some .lt) = true := rfl
        go_enter Tryz.func3, Tryz.ntmps3
        go_wp2_with fail
        refine HK.out.mono ?_
        rintro e W1 ⟨rfl, hb⟩
        have HB := Lib.hid hb
        clear hb
        go_wp2_with (first | ((with_reducible refine (holds_calls _ x y _).mono ?_); rw [HO.out]; rintro e w' ⟨rfl, rfl⟩) | fail)
        refine wp_loop_rounds 4 ?_
        iterate 4 (rw [rounds_succ]; go_wp2_with fail)
        all_goals (go_wp2_with (first | ((with_reducible refine (holds_calls _ x y _).mono ?_); rw [HO.out]; rintro e w' ⟨rfl, rfl⟩) | fail))
        go_ret
        exact ⟨rfl, HB.out.alloc HB.out.size _⟩
      · have HO := Lib.hid (show ordO x y = some .eq from ord_eq nx ny l)
        clear l
        have c5 : cmpB 5 (some .eq) = true := rfl
        have c6 : cmpB 6 (some .eq) = false := rfl
        have c7 : cmpB 7 (some .eq) = false := rfl
        have c8 : cmpB 8 (some .eq) = false := rfl
        have c9 : cmpB 9 (some .eq) = true := rfl
        have c10 : cmpB 10 (some .eq) = true := rfl
        go_enter Tryz.func3, Tryz.ntmps3
        go_wp2_with fail
        refine HK.out.mono ?_
        rintro e W1 ⟨rfl, hb⟩
        have HB := Lib.hid hb
        clear hb
        go_wp2_with (first | ((with_reducible refine (holds_calls _ x y _).mono ?_); rw [HO.out]; rintro e w' ⟨rfl, rfl⟩) | fail)
        refine wp_loop_rounds 4 ?_
        iterate 4 (rw [rounds_succ]; go_wp2_with fail)
        all_goals (go_wp2_with (first | ((with_reducible refine (holds_calls _ x y _).mono ?_); rw [HO.out]; rintro e w' ⟨rfl, rfl⟩) | fail))
        go_ret
        exact ⟨rfl, HB.out.alloc HB.out.size _⟩
      · have HO := Lib.hid (show ordO x y = some .gt from ord_gt nx ny l)
        clear l
        have c5 : cmpB 5 (some .gt) = false := rfl
        have c6 : cmpB 6 (some .gt) = true := rfl
        have c7 : cmpB 7 (some .gt) = true := rfl
        have c8 : cmpB 8 (some .gt) = false := rfl
        have c9 : cmpB 9 (some .gt) = true := rfl
        have c10 : cmpB 10 (some .gt) = false := rfl
        go_enter Tryz.func3, Tryz.ntmps3
        go_wp2_with fail
        refine HK.out.mono ?_
        rintro e W1 ⟨rfl, hb⟩
        have HB := Lib.hid hb
        clear hb
        go_wp2_with (first | ((with_reducible refine (holds_calls _ x y _).mono ?_); rw [HO.out]; rintro e w' ⟨rfl, rfl⟩) | fail)
        refine wp_loop_rounds 4 ?_
        iterate 4 (rw [rounds_succ]; go_wp2_with fail)
        all_goals (go_wp2_with (first | ((with_reducible refine (holds_calls _ x y _).mono ?_); rw [HO.out]; rintro e w' ⟨rfl, rfl⟩) | fail))
        go_ret
        exact ⟨rfl, HB.out.alloc HB.out.size _⟩
    · have oy := ord_nl y ny
      have HO := Lib.hid (show ordO x y = none from ord_nr x ny)
      have c5 : cmpB 5 none = false := rfl
      have c6 : cmpB 6 none = true := rfl
      have c7 : cmpB 7 none = false := rfl
      have c8 : cmpB 8 none = false := rfl
      have c9 : cmpB 9 none = false := rfl
      have c10 : cmpB 10 none = false := rfl
      go_enter Tryz.func3, Tryz.ntmps3
      go_wp2_with fail
      refine HK.out.mono ?_
      rintro e W1 ⟨rfl, hb⟩
      have HB := Lib.hid hb
      clear hb
      go_wp2_with (first | ((with_reducible refine (holds_calls _ x y _).mono ?_); rw [HO.out]; rintro e w' ⟨rfl, rfl⟩) | fail)
      go_ret
      exact ⟨rfl, HB.out⟩
  · have ox := ord_nl x nx
    have HO := Lib.hid (show ordO x y = none from ord_nl y nx)
    have c5 : cmpB 5 none = false := rfl
    have c6 : cmpB 6 none = true := rfl
    have c7 : cmpB 7 none = false := rfl
    have c8 : cmpB 8 none = false := rfl
    have c9 : cmpB 9 none = false := rfl
    have c10 : cmpB 10 none = false := rfl
    go_enter Tryz.func3, Tryz.ntmps3
    go_wp2_with fail
    refine HK.out.mono ?_
    rintro e W1 ⟨rfl, hb⟩
    have HB := Lib.hid hb
    clear hb
    go_wp2_with (first | ((with_reducible refine (holds_calls _ x y _).mono ?_); rw [HO.out]; rintro e w' ⟨rfl, rfl⟩) | fail)
    go_ret
    exact ⟨rfl, HB.out⟩
end Go.Proofs.YtdmmmdnfofoefaaGreatDoor.Fl
