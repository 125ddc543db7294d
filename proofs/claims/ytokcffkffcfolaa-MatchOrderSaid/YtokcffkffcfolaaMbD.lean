/-
  known: a matcher of each kind.
-/
import Derived.Test.YtokcffkffcfolaaMbC
import Derived.Test.YtokcffkffcfolaaMbB
namespace Go.Proofs.Ytokcffkffcfolaa.Ma
open Go Go.RowKit Go.Proofs.Ytokcffkffcfolaa.Rg

theorem RowM.lit (W : World) (l : List Mr) (hl : l.length ≤ 1000) (cs : Array Value) (hcs : cs = (mflat l).toArray) : RowM (W.alloc (.cells cs 48)) (.slice (some ⟨W.heap.size, 0, none⟩) l.length l.length) l := by
  subst hcs
  have := World.ownsRow_lit (base := W.heap.size) (e := 48) (size := 3) W (mflat l).toArray l.length (Nat.le_refl _) (by unfold maxLen; omega) (by simp [mflat_length])
  exact RowM.of_own (base := W.heap.size) (by simpa using this)
theorem RowL.lit (W : World) (l : List Lb) (cs : Array Value) (hcs : ∀ i x, l[i]? = some x → cs[i * 2]? = some (.string x.name) ∧ cs[i * 2 + 1]? = some (.string x.value)) : RowL (W.alloc (.cells cs 90)) (.slice (some ⟨W.heap.size, 0, none⟩) l.length l.length) l := by
  refine ⟨_, _, rfl, fun _ => ⟨W.heap.size, 0, rfl, fun i x hi => ?_⟩⟩
  obtain ⟨h1, h2⟩ := hcs i x hi
  rw [Nat.zero_add]
  exact ⟨(blk_cell (blk_new W _) _).trans h1, (blk_cell (blk_new W _) _).trans h2⟩
def kM : List Mr := [⟨1, ⟨#[97]⟩, ⟨#[49]⟩⟩, ⟨4, ⟨#[98]⟩, ⟨#[120, 46, 42]⟩⟩]
def kS : List Lb := [⟨⟨#[97]⟩, ⟨#[49]⟩⟩]
def kT : List Lb := [⟨⟨#[97]⟩, ⟨#[49]⟩⟩, ⟨⟨#[98]⟩, ⟨#[120, 121]⟩⟩]
def kQ : Mr := ⟨3, ⟨#[97]⟩, ⟨#[113]⟩⟩
def kZ : List Mr := [⟨0, ⟨#[]⟩, ⟨#[]⟩⟩]
theorem kM_ok : errM kM = 0 := by decide +kernel
theorem kS_yes : meantB kM kS = true := by decide +kernel
theorem kT_no : meantB kM kT = false := by decide +kernel
theorem kQ_text : textM kQ = ⟨#[97, 61, 126, 34, 113, 34]⟩ := by decide +kernel
theorem kZ_err : errM kZ = 1 := by decide +kernel
set_option maxRecDepth 100000 in
set_option maxHeartbeats 4000000 in
theorem knownM_calls (W : World) : Calls Try.prog 21 #[] W fun e W' => e = .returned (.bool true) ∧ Below W.heap.size W W' := by
  have hM := RowM.lit W kM (by decide) #[.int .i64 1, .string ⟨#[97]⟩, .string ⟨#[49]⟩, .int .i64 4, .string ⟨#[98]⟩, .string ⟨#[120, 46, 42]⟩] rfl
  have HM := Lib.hid hM; clear hM
  have HB0 := Lib.hid ((Below.refl W.heap.size W).alloc (Nat.le_refl _) (.cells #[.int .i64 1, .string ⟨#[97]⟩, .string ⟨#[49]⟩, .int .i64 4, .string ⟨#[98]⟩, .string ⟨#[120, 46, 42]⟩] 48))
  go_enter Try.func21, Try.ntmps21
  go_wp2_with fail
  refine (new_calls (.slice (some ⟨W.heap.size, 0, none⟩) 2 2) kM _ HM.out (by decide) (by decide)).mono ?_
  rintro e W1 ⟨hb1, hok, _⟩
  obtain ⟨sp, rfl, hset⟩ := hok kM_ok
  have HSet := Lib.hid hset
  have HB1 := Lib.hid (after HB0.out (Nat.le_refl _) hb1); clear hset hb1 hok
  go_wp2_with fail
  have hba := (Below.refl W1.heap.size W1).alloc (Nat.le_refl _) (.cells #[.string ⟨#[97]⟩, .string ⟨#[49]⟩] 90)
  have hS := RowL.lit W1 kS #[.string ⟨#[97]⟩, .string ⟨#[49]⟩] (fun i x hi => by
    match i, hi with
    | 0, hi => cases hi; exact ⟨rfl, rfl⟩)
  refine (meant_calls sp kM (.slice (some ⟨W1.heap.size, 0, none⟩) 1 1) kS _ (HSet.out.below hba) hS (by decide) (by decide) (by decide) (by decide)).mono ?_
  rintro e W2 ⟨rfl, hb2⟩
  rw [kS_yes]
  have HSet2 := Lib.hid ((HSet.out.below hba).below hb2)
  have HB2 := Lib.hid (after (HB1.out.alloc HB1.out.size _) (Nat.le_refl _) hb2); clear hb2 hba hS
  go_wp2_with fail
  have hba := (Below.refl W2.heap.size W2).alloc (Nat.le_refl _) (.cells #[.string ⟨#[97]⟩, .string ⟨#[49]⟩, .string ⟨#[98]⟩, .string ⟨#[120, 121]⟩] 90)
  have hS := RowL.lit W2 kT #[.string ⟨#[97]⟩, .string ⟨#[49]⟩, .string ⟨#[98]⟩, .string ⟨#[120, 121]⟩] (fun i x hi => by
    match i, hi with
    | 0, hi => cases hi; exact ⟨rfl, rfl⟩
    | 1, hi => cases hi; exact ⟨rfl, rfl⟩)
  refine (meant_calls sp kM (.slice (some ⟨W2.heap.size, 0, none⟩) 2 2) kT _ (HSet2.out.below hba) hS (by decide) (by decide) (by decide) (by decide)).mono ?_
  rintro e W3 ⟨rfl, hb3⟩
  rw [kT_no]
  have HB3 := Lib.hid (after (HB2.out.alloc HB2.out.size _) (Nat.le_refl _) hb3); clear hb3 hba hS
  go_wp2_with fail
  refine (text_calls kQ (by decide) _).mono ?_
  rintro e W4 ⟨rfl, hb4⟩
  rw [kQ_text]
  have HB4 := Lib.hid (after HB3.out (Nat.le_refl _) hb4); clear hb4
  go_wp2_with fail
  have hZ := RowM.lit W4 kZ (by decide) #[.int .i64 0, .string ⟨#[]⟩, .string ⟨#[]⟩] rfl
  refine (check_calls (.slice (some ⟨W4.heap.size, 0, none⟩) 1 1) kZ _ hZ (by decide) (by decide)).mono ?_
  rintro e W5 ⟨rfl, hb5⟩
  rw [kZ_err]
  have HB5 := Lib.hid (after (HB4.out.alloc HB4.out.size _) (Nat.le_refl _) hb5); clear hb5 hZ
  go_wp2_with fail
  go_ret
  exact ⟨rfl, HB5.out⟩
end Go.Proofs.Ytokcffkffcfolaa.Ma
