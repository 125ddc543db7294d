/-
  The reader of queries: the token behind the next one; the operator that stands next; no offset; words that begin nothing.
-/
import Derived.Test.YtjddnchenhnemaaGreatDoorPsC
import Derived.Test.YtjddnchenhnemaaGreatDoorPsD
namespace Go.Proofs.YtjddnchenhnemaaGreatDoor.Ps
open Go Go.RowKit Go.Proofs.YtjddnchenhnemaaGreatDoor.QT Go.Proofs.YtjddnchenhnemaaGreatDoor.Rg Go.Proofs.YtjddnchenhnemaaGreatDoor.Ma Go.Proofs.YtjddnchenhnemaaGreatDoor.Ir Go.Proofs.YtjddnchenhnemaaGreatDoor.Pm Go.Proofs.YtjddnchenhnemaaGreatDoor.Le
set_option maxHeartbeats 4000000
set_option maxRecDepth 100000

theorem after_calls {E : Env} {W : World} {p d : Nat} (h : PS E W p d) (s : ByteArray) (x : Bool) (hx : isB (E.tk (p + 1)) s = x) : Calls Tryz.prog 127 #[.pointer (some ⟨E.g, 0, none⟩), .string s] W (RetB (.bool x) W) := by
  have hlen := h.len
  obtain ⟨c0, c1, -, -, -, -, -⟩ := h.cells
  by_cases hp : p + 1 < E.ts.length
  · obtain ⟨b, o, cap, hv, -, hlt, hr⟩ := h.tok hp
    rw [hv] at c0
    have k0 : W.cell? ⟨b, o + (p + 1) * 5, none⟩ = some (.int .i64 (E.tk (p + 1)).kind) := hr 0 _ rfl
    have k1 : W.cell? ⟨b, o + (p + 1) * 5 + 1, none⟩ = some (.int .i64 (E.tk (p + 1)).at_) := hr 1 _ rfl
    have k2 : W.cell? ⟨b, o + (p + 1) * 5 + 2, none⟩ = some (.string (E.tk (p + 1)).text) := hr 2 _ rfl
    have k3 : W.cell? ⟨b, o + (p + 1) * 5 + 3, none⟩ = some (.float .f64 (E.tk (p + 1)).v) := hr 3 _ rfl
    have k4 : W.cell? ⟨b, o + (p + 1) * 5 + 4, none⟩ = some (.int .i64 (E.tk (p + 1)).n) := hr 4 _ rfl
    obtain ⟨n, hn⟩ : ∃ n, E.ts.length = n := ⟨_, rfl⟩
    obtain ⟨t, ht⟩ : ∃ t, E.tk (p + 1) = t := ⟨_, rfl⟩
    rw [hn] at hp c0 hlen
    rw [ht] at k0 k1 k2 k3 k4 hx
    have HI := Lib.hid (isT_calls t s x hx)
    have e1 : IntKind.i64.wrap ((p : Int) + 1) = (p : Int) + 1 := IntWalk.i64_in _ (by omega)
    have e2 : ((p : Int) + 1).toNat = p + 1 := by omega
    have e3 : (0 : Int) ≤ (p : Int) + 1 := by omega
    have e4 : (p : Int) + 1 < (n : Int) := by omega
    clear hr hv h hn ht hx hlt
    go_enter Tryz.func127, Tryz.ntmps127
    go_wp2_with fail
    refine QT.wp_region_qtail 24 (by kernel_rfl) (by kernel_rfl) (by kernel_rfl) ?_
    simp only [List.take_succ_cons, List.take_zero, List.drop_succ_cons, List.drop_zero]
    repeat (go_big_quiet_step (fail))
    refine wpQuiet_nil ?_
    clear e1 e2 e3 e4
    go_wp2_with fail
    (with_reducible refine (HI.out _).mono ?_)
    rintro e W1 ⟨rfl, hb⟩
    have HB := Lib.hid hb; clear hb
    go_wp2_with fail
    go_ret
    exact ⟨rfl, ((Below.refl _ _).drew).trans HB.out⟩
  · have hz := Env.tk_ge hp
    obtain ⟨ao, cap, hv⟩ := h.vt
    rw [hv] at c0
    rw [hz] at hx
    have hx0 : x = false := by rw [← hx]; rfl
    subst hx0
    obtain ⟨n, hn⟩ : ∃ n, E.ts.length = n := ⟨_, rfl⟩
    rw [hn] at hp c0 hlen
    have e1 : IntKind.i64.wrap ((p : Int) + 1) = (p : Int) + 1 := IntWalk.i64_in _ (by have := h.at_; omega)
    have e4 : decide ((p : Int) + 1 < (n : Int)) = false := decide_eq_false (by omega)
    clear hv h hn hz hx
    go_enter Tryz.func127, Tryz.ntmps127
    go_wp2_with fail
    go_quiet (fail)
    go_wp2_with fail
    go_ret
    exact ⟨rfl, Ir.below_drewN (Below.refl _ _) _⟩
theorem offset_none {E : Env} {W : World} {p d : Nat} (h : PS E W p d) (hx : isB (E.tk p) ⟨#[111, 102, 102, 115, 101, 116]⟩ = false) : Calls Tryz.prog 109 #[.pointer (some ⟨E.g, 0, none⟩)] W (RetB (.int .i64 0) W) := by
  have HN := Lib.hid (takes_no h _ hx); clear h hx
  go_enter Tryz.func109, Tryz.ntmps109
  go_wp2_with fail
  (with_reducible refine HN.out.mono ?_)
  rintro e W1 ⟨rfl, hb⟩
  have HB := Lib.hid hb; clear hb
  go_wp2_with fail
  go_ret
  exact ⟨rfl, HB.out⟩
/-- A word that begins no primary. -/
def resB (s : ByteArray) : Bool := (s.toList == [98, 111, 111, 108]) || (s.toList == [111, 110]) || (s.toList == [105, 103, 110, 111, 114, 105, 110, 103]) || (s.toList == [103, 114, 111, 117, 112, 95, 108, 101, 102, 116]) || (s.toList == [103, 114, 111, 117, 112, 95, 114, 105, 103, 104, 116]) || (s.toList == [111, 102, 102, 115, 101, 116]) || (s.toList == [98, 121]) || (s.toList == [119, 105, 116, 104, 111, 117, 116])
theorem reserved_no (s : ByteArray) (h : resB s = false) (x : Int) (hj : ixS joinL s 0 = x) (hx : x < 1) (W : World) : Calls Tryz.prog 129 #[.string s] W (RetB (.bool false) W) := by
  unfold resB at h
  simp only [Bool.or_eq_false_iff] at h
  obtain ⟨⟨⟨⟨⟨⟨⟨q1, q2⟩, q3⟩, q4⟩, q5⟩, q6⟩, q7⟩, q8⟩ := h
  have hJ := joinNamed_calls s x hj
  rw [if_pos hx, show decide (1 ≤ x) = false from decide_eq_false (by omega)] at hJ
  have HJ := Lib.hid hJ; clear hJ hj
  go_enter Tryz.func129, Tryz.ntmps129
  go_wp2_with fail
  (with_reducible refine (HJ.out _).mono ?_)
  rintro e W1 ⟨rfl, hb⟩
  have HB := Lib.hid hb; clear hb
  go_wp2_with fail
  go_ret
  exact ⟨rfl, HB.out⟩
/-- The operator that a token is, of a level at least. -/
def opOf (mo : Bool) (t : Tk) (level : Int) : Int :=
  if ((t.kind == 1) || (t.kind == 5)) = false then 0 else if ixS joinL t.text 0 < 1 then 0 else if levelJ (ixS joinL t.text 0) < level ∨ (ixS joinL t.text 0 = 14 ∧ mo = false) then 0 else ixS joinL t.text 0
end Go.Proofs.YtjddnchenhnemaaGreatDoor.Ps
