/-
  The reader of queries: its small methods (is, after, takes, want, token, open).
-/
import Derived.Test.YtjddnchenhnemaaGreatDoorPsB
namespace Go.Proofs.YtjddnchenhnemaaGreatDoor.Ps
open Go Go.RowKit Go.Proofs.YtjddnchenhnemaaGreatDoor.QT Go.Proofs.YtjddnchenhnemaaGreatDoor.Rg Go.Proofs.YtjddnchenhnemaaGreatDoor.Ma Go.Proofs.YtjddnchenhnemaaGreatDoor.Ir Go.Proofs.YtjddnchenhnemaaGreatDoor.Pm Go.Proofs.YtjddnchenhnemaaGreatDoor.Le
set_option maxHeartbeats 4000000
set_option maxRecDepth 100000

/-- Is a token a word, or a mark, of a text? -/
def isB (t : Tk) (s : ByteArray) : Bool := ((t.kind == 1) || (t.kind == 5)) && (t.text.toList == s.toList)
theorem isT_calls (t : Tk) (s : ByteArray) (x : Bool) (hx : isB t s = x) (W : World) : Calls Tryz.prog 105 #[.agg (ta t), .string s] W (RetB (.bool x) W) := by
  unfold isB at hx
  obtain ⟨b1, h1⟩ : ∃ b, (t.kind == 1) = b := ⟨_, rfl⟩
  obtain ⟨b2, h2⟩ : ∃ b, (t.kind == 5) = b := ⟨_, rfl⟩
  obtain ⟨b3, h3⟩ : ∃ b, (t.text.toList == s.toList) = b := ⟨_, rfl⟩
  rw [h1, h2, h3] at hx
  subst hx
  cases b1 <;> cases b2 <;> cases b3
  all_goals
    go_enter Tryz.func105, Tryz.ntmps105
    go_wp2_with fail
    go_ret
    exact ⟨rfl, (Below.refl _ _).alloc (Nat.le_refl _) _⟩
theorem is_calls {E : Env} {W : World} {p d : Nat} (h : PS E W p d) (s : ByteArray) (x : Bool) (hx : isB (E.tk p) s = x) : Calls Tryz.prog 84 #[.pointer (some ⟨E.g, 0, none⟩), .string s] W (RetB (.bool x) W) := by
  have HN := Lib.hid (next_calls h); clear h
  have HX := Lib.hid hx; clear hx
  go_enter Tryz.func84, Tryz.ntmps84
  go_wp2_with fail
  (with_reducible refine HN.out.mono ?_)
  rintro e W1 ⟨rfl, hb⟩
  have HB := Lib.hid hb; clear hb
  go_wp2_with fail
  (with_reducible refine (isT_calls (E.tk p) s x HX.out _).mono ?_)
  rintro e W2 ⟨rfl, hb2⟩
  have HB2 := Lib.hid (HB.out.trans (hb2.mono HB.out.size)); clear hb2
  go_wp2_with fail
  go_ret
  exact ⟨rfl, HB2.out⟩
/-- What a step of the reader says: the reader has moved, nothing else has turned. -/
def Moved (E : Env) (v : Value) (W : World) (p d : Nat) (e : Ending) (W' : World) : Prop := e = .returned v ∧ PS E W' p d ∧ Only E.g W W'
theorem takes_no {E : Env} {W : World} {p d : Nat} (h : PS E W p d) (s : ByteArray) (hx : isB (E.tk p) s = false) : Calls Tryz.prog 90 #[.pointer (some ⟨E.g, 0, none⟩), .string s] W (RetB (.bool false) W) := by
  have HN := Lib.hid (is_calls h s _ hx); clear h hx
  go_enter Tryz.func90, Tryz.ntmps90
  go_wp2_with fail
  (with_reducible refine HN.out.mono ?_)
  rintro e W1 ⟨rfl, hb⟩
  have HB := Lib.hid hb; clear hb
  go_wp2_with fail
  go_ret
  exact ⟨rfl, HB.out⟩
theorem isB_lt {E : Env} {p : Nat} {s : ByteArray} (h : isB (E.tk p) s = true) : p < E.ts.length := by
  apply Classical.byContradiction
  intro hn
  rw [Env.tk_ge hn] at h
  simp [isB, zT] at h
theorem takes_yes {E : Env} {W : World} {p d : Nat} (h : PS E W p d) (s : ByteArray) (hx : isB (E.tk p) s = true) : Calls Tryz.prog 90 #[.pointer (some ⟨E.g, 0, none⟩), .string s] W (Moved E (.bool true) W (p + 1) d) := by
  have hlt := isB_lt hx
  have hlen := h.len
  have HN := Lib.hid (is_calls h s _ hx); clear hx
  have HP := Lib.hid h; clear h
  go_enter Tryz.func90, Tryz.ntmps90
  go_wp2_with fail
  (with_reducible refine HN.out.mono ?_)
  rintro e W1 ⟨rfl, hb⟩
  have hP1 := HP.out.below hb
  have c1 := hP1.cells.2.1
  have f1 := blk_frozen hP1.box 1
  have HP1 := Lib.hid hP1; clear hP1
  have HB := Lib.hid hb; clear hb
  go_wp2_with fail
  go_ret
  exact ⟨rfl, HP1.out.move (p' := p + 1) (by omega), (Only.of HB.out).cell (p := ⟨E.g, 1, none⟩) (.inl rfl) _⟩
theorem want_calls {E : Env} {W : World} {p d : Nat} (h : PS E W p d) (s : ByteArray) (hx : isB (E.tk p) s = true) : Calls Tryz.prog 108 #[.pointer (some ⟨E.g, 0, none⟩), .string s] W (Moved E (.tuple #[]) W (p + 1) d) := by
  have HN := Lib.hid (takes_yes h s hx); clear h hx
  go_enter Tryz.func108, Tryz.ntmps108
  go_wp2_with fail
  (with_reducible refine HN.out.mono ?_)
  rintro e W1 ⟨rfl, hP, hO⟩
  have HP := Lib.hid hP; have HO := Lib.hid hO; clear hP hO
  go_wp2_with fail
  go_end0
  exact ⟨rfl, HP.out, HO.out⟩
theorem open_calls {E : Env} {W : World} {p d : Nat} (h : PS E W p d) (a : Int) (hd : d < 40) : Calls Tryz.prog 86 #[.pointer (some ⟨E.g, 0, none⟩), .int .i64 a] W (Moved E (.tuple #[]) W p (d + 1)) := by
  have c4 := h.cells.2.2.2.2.1
  have f4 := blk_frozen h.box 4
  have HP := Lib.hid h; clear h
  have t1 : ((d : Int) == 40) = false := by rw [beq_eq_false_iff_ne]; omega
  go_enter Tryz.func86, Tryz.ntmps86
  go_wp2_with fail
  go_end0
  exact ⟨rfl, HP.out.sink (d' := d + 1) (by omega), (Only.refl _ _).cell (p := ⟨E.g, 4, none⟩) (.inl rfl) _⟩
/-- A token of a kind is taken. -/
theorem token_calls {E : Env} {W : World} {p d : Nat} (h : PS E W p d) (k : Int) (hp : p < E.ts.length) (hk : (E.tk p).kind = k) : Calls Tryz.prog 107 #[.pointer (some ⟨E.g, 0, none⟩), .int .i64 k] W (Moved E (.agg (ta (E.tk p))) W (p + 1) d) := by
  have hlen := h.len
  obtain ⟨B0, hB0⟩ : ∃ B0, B0 = W.alloc (.cells #[.int .i64 0, .int .i64 0, .string ⟨#[]⟩, .float .f64 0, .int .i64 0] 86) := ⟨_, rfl⟩
  have hb0 : Below W.heap.size W B0 := by rw [hB0]; exact (Below.refl _ _).alloc (Nat.le_refl _) _
  have hn0 : B0.heap[W.heap.size]? = some (.cells tz 86 (0, 0)) := by rw [hB0]; exact blk_new W _
  have h0 : PS E B0 p d := h.below hb0
  have HN := Lib.hid (next_calls h0)
  have HPw := Lib.hid h; clear h
  have HP := Lib.hid h0; clear h0
  have HB0 := Lib.hid hb0; have HN0 := Lib.hid hn0; clear hb0 hn0
  have hx : W.alloc (.cells #[.int .i64 0, .int .i64 0, .string ⟨#[]⟩, .float .f64 0, .int .i64 0] 86) = B0 := hB0.symm
  clear hB0
  obtain ⟨t, ht⟩ : ∃ t, E.tk p = t := ⟨_, rfl⟩
  rw [ht] at hk HN ⊢
  have hk' : (t.kind != k) = false := by rw [hk]; simp
  have hst := run_store_float
  clear hk ht
  go_enter Tryz.func107, Tryz.ntmps107
  go_wp2_with fail
  clear hx
  (with_reducible refine HN.out.mono ?_)
  rintro e W1 ⟨rfl, hb⟩
  have hlt := blk_lt HN0.out
  have hs1 := hb.size
  have hN1 : (W1.alloc (.cells (ta t) 86)).heap[W.heap.size]? = some (.cells tz 86 (0, 0)) := blk_alloc ((hb.block _ hlt).trans HN0.out) _
  have hP1 := (HP.out.below hb).below ((Below.refl _ _).alloc (Nat.le_refl _) (.cells (ta t) 86))
  have c1 := hP1.cells.2.1
  have f1 := blk_frozen hP1.box 1
  have hg := HP.out.lt
  have hgw : E.g ≠ W.heap.size := by
    intro e
    have h1 := HP.out.box
    rw [e, HN0.out] at h1
    simp [tz] at h1
  have HB1 := Lib.hid (HB0.out.trans (hb.mono (by have := HB0.out.size; omega)))
  have HP1 := Lib.hid hP1; have HN1 := Lib.hid hN1; clear hP1 hN1 hb
  go_wp2_with (refine wpList_setA sizeTok rfl _ _ rfl W.heap.size tz (ta t) (blk_far HN1.out (by simpa using hgw.symm) _) rfl rfl rfl rfl (by simp [ta, Value.oneCell']) ?_)
  refine bodyPost_ret_by (results_cell_row (p := 4) (ty := 86) rfl _ _ W.heap.size 86 _ (0, 0) _ rfl (setRow_heap _ _ _ _ _ _ (blk_far HN1.out (by simpa using hgw.symm) _)) Tryz.underlying86 rfl (by rw [sizeTok]; rfl)) rfl ?_
  have hM := HP1.out.move (p' := p + 1) (by omega)
  have hO := (((Only.of HB1.out).alloc (.cells (ta t) 86)).cell (p := ⟨E.g, 1, none⟩) (.inl rfl) (.int .i64 ((p + 1 : Nat) : Int))).row (.inr (Nat.le_refl W.heap.size)) (ta t)
  exact ⟨rfl, HPw.out.only hO hM.at_ hM.dp ((setRow_other _ _ _ _ hgw).trans hM.box), hO⟩
end Go.Proofs.YtjddnchenhnemaaGreatDoor.Ps
