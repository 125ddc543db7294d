/-
  Text of the value 2.5, whole.
-/
import Derived.Test.YtdmmmdnfofoefaaGreatDoorFlV
import Derived.Test.YtdmmmdnfofoefaaGreatDoorFlC
import Derived.StillTailTactics
namespace Go.Proofs.YtdmmmdnfofoefaaGreatDoor.Fl
open Go Go.RowKit Go.Proofs.YtdmmmdnfofoefaaGreatDoor.Rg
set_option maxHeartbeats 4000000
set_option maxRecDepth 100000

theorem run_itobits (x : Nat) (w : World) : (callFunc 54 #[.float .f64 x]).run Tryz.prog w = .ok (.value (.int .u64 x)) w := by
  rw [run_callFunc_standIn (e := Extern.MathFloatBits.float64bits) Tryz.func54 (by kernel_rfl) (by kernel_rfl) (by kernel_rfl) (by kernel_rfl)]
  rfl
/-- What the text's writer asks of the package's variables. -/
structure Fmt (w : World) : Prop where
  pow : Pow w
  ten : w.cell? ⟨4, 15, none⟩ = some (.int .u64 1000000000000000)
  big : 14 ≤ w.heap.size
theorem lt_below {k B : Nat} (hB : 14 ≤ B) (hk : k < 14) : k < B := Nat.lt_of_lt_of_le hk hB
theorem Fmt.below {w w' : World} {B : Nat} (h : Fmt w) (hb : Below B w w') (hB : 14 ≤ B) : Fmt w' :=
  ⟨⟨(hb.cell (p := ⟨_, _, none⟩) (lt_below hB (by decide))).trans h.pow.hi, (hb.cell (p := ⟨_, _, none⟩) (lt_below hB (by decide))).trans h.pow.lo⟩, (hb.cell (p := ⟨_, _, none⟩) (lt_below hB (by decide))).trans h.ten, Nat.le_trans h.big hb.size⟩
theorem own_row_below {w w' : World} {base e size n B g cap : Nat} {xs : List Value} (h : w.ownsRow base e size (.slice (some ⟨g, 0, none⟩) n cap) n xs) (hb : Below B w w') (hg : g < B) : w'.ownsRow base e size (.slice (some ⟨g, 0, none⟩) n cap) n xs := by
  refine ⟨h.1, ?_⟩
  rcases h.2 with ⟨h1, _⟩ | ⟨g', cap', cur, h1, h2, h3, h4⟩
  · cases h1
  · right
    cases h1
    exact ⟨g, cap, cur, rfl, h2, (hb.block g hg).trans h3, h4⟩
def Ftoa (W : World) (e : Ending) (w' : World) : Prop := ∃ v b, e = .returned v ∧ Dst W w' b v 3 [50, 46, 53]
theorem ftoa_calls (W wr : World) (g : Nat) (hown : wr.ownsRow W.heap.size 5 1 (.slice (some ⟨g, 0, none⟩) 0 24) 0 []) (hbel : Below W.heap.size W wr) (hg : g < wr.heap.size) (hF : Fmt wr) :
    Calls Tryz.prog 47 #[.slice (some ⟨g, 0, none⟩) 0 24, .float .f64 4612811918334230528, .int .u8 103, .int .i64 (-1)] wr (Ftoa W) := by
  have hx := run_itobits
  have y1 : bits .and .u64 4612811918334230528 4503599627370495 = 1125899906842624 := by decide +kernel
  have y2 : bits .and .i64 1024 2047 = 1024 := by decide +kernel
  have y3 : bits .or .u64 1125899906842624 4503599627370496 = 5629499534213120 := by decide +kernel
  have HO := Lib.hid hown
  have HB := Lib.hid hbel
  have HG := Lib.hid hg
  have HF := Lib.hid hF
  clear hown hbel hg hF
  go_enter Tryz.func47, Tryz.ntmps47
  go_wp2_with fail
  go_quiet (fail)
  go_wp2_with (first | ((with_reducible refine (len64_b _).mono ?_); rintro e w' ⟨rfl, rfl⟩) | fail)
  refine (short_calls _ (HF.out.below (B := wr.heap.size) ?_ HF.out.big).pow ?_).mono ?_
  · exact (below_drewN (Below.refl wr.heap.size wr) nq).alloc (Nat.le_refl _) _
  · have := HF.out.big
    simp; omega
  rintro e W2 ⟨rfl, hB2⟩
  have hF2 : Fmt W2 := (HF.out.below (B := wr.heap.size) ((below_drewN (Below.refl wr.heap.size wr) nq).alloc (Nat.le_refl _) _) HF.out.big).below hB2 (by have := HF.out.big; simp; omega)
  have hH2 : ∀ j, j < 16 → W2.cell? ⟨wr.heap.size, j, none⟩ = some (.int .u8 0) ∧ W2.frozen? ⟨wr.heap.size, j, none⟩ = false := by
    intro j hj
    rw [hB2.cell (p := ⟨_, _, none⟩) (by simp), hB2.frozen (p := ⟨_, _, none⟩) (by simp)]
    refine ⟨?_, blk_frozen (blk_new (wr.drewN nq) _) j⟩
    refine (blk_cell (blk_new (wr.drewN nq) _) j).trans ?_
    have : ∀ j, j < 16 → (#[Value.int .u8 0, .int .u8 0, .int .u8 0, .int .u8 0, .int .u8 0, .int .u8 0, .int .u8 0, .int .u8 0, .int .u8 0, .int .u8 0, .int .u8 0, .int .u8 0, .int .u8 0, .int .u8 0, .int .u8 0, .int .u8 0, .int .u8 0, .int .u8 0, .int .u8 0, .int .u8 0, .int .u8 0, .int .u8 0, .int .u8 0, .int .u8 0, .int .u8 0, .int .u8 0, .int .u8 0, .int .u8 0, .int .u8 0, .int .u8 0, .int .u8 0, .int .u8 0] : Array Value)[j]? = some (.int .u8 0) := by
      intro j hj
      iterate 16 (rcases j with _ | j; · rfl)
      omega
    exact this j hj
  have hb2 : Below wr.heap.size wr W2 := ((below_drewN (Below.refl wr.heap.size wr) nq).alloc (Nat.le_refl _) _).trans (hB2.mono (by simp))
  have hlt2 : wr.heap.size < W2.heap.size := by have := hB2.size; simp at this; omega
  have ht2 := hF2.ten
  have HH2 := Lib.hid hH2
  have HB2 := Lib.hid hb2
  have HL2 := Lib.hid hlt2
  clear hB2 hH2 hb2 hlt2 hF2
  go_wp2_with fail
  go_region_with (first | (go_at_call 61; refine (numDigits_calls _ ?_).mono ?_; exact ht2; rintro e w' ⟨rfl, rfl⟩) | (go_at_call 60; refine (setDigits_calls wr.heap.size wr.heap.size _ (Nat.le_refl _) ?_).mono ?_; exact HH2.out; rintro e W3 ⟨rfl, hr3, hb3⟩; have HR3 := Lib.hid hr3; have HB3 := Lib.hid hb3; clear hr3 hb3))
  go_wp2_with fail
  have hb3 : Below wr.heap.size wr W3 := HB2.out.drew.trans HB3.out
  have hg := HG.out
  have hsz2 := HB2.out.size
  have hsz3 := HB3.out.size
  have hne : some wr.heap.size ≠ (Value.slice (some ⟨g, 0, none⟩) 0 24).ownBlock := by
    intro e
    have e' : wr.heap.size = g := by simpa [Value.ownBlock] using e
    omega
  have hlt3 : wr.heap.size < W3.heap.size := Nat.lt_of_lt_of_le HL2.out HB3.out.size
  have hD : Dst W W3 wr.heap.size (.slice (some ⟨g, 0, none⟩) 0 24) 0 [] :=
    ⟨own_row_below HO.out hb3 hg, rfl, HB.out.trans (hb3.mono HB.out.size), HR3.out, hne, hlt3⟩
  clear hne hlt3
  refine (efg_calls W _ wr.heap.size g hD).mono ?_
  rintro e w' ⟨v, rfl, hv⟩
  have HV := Lib.hid hv
  clear hv hD hb3 hg hsz2 hsz3
  go_wp2_with fail
  go_ret
  exact ⟨_, _, rfl, HV.out⟩
end Go.Proofs.YtdmmmdnfofoefaaGreatDoor.Fl
