/-
  Signatures of functions: what package types tells of a name.
-/
import Derived.Test.YtjddnchenhnemaaGreatDoorPsD
namespace Go.Proofs.YtjddnchenhnemaaGreatDoor.Ps
open Go Go.RowKit Go.Proofs.YtjddnchenhnemaaGreatDoor.QT Go.Proofs.YtjddnchenhnemaaGreatDoor.Rg Go.Proofs.YtjddnchenhnemaaGreatDoor.Ma Go.Proofs.YtjddnchenhnemaaGreatDoor.Ir
set_option maxHeartbeats 8000000
set_option maxRecDepth 100000
def b1 (s : ByteArray) : Bool := s.toList == [99, 108, 97, 109, 112, 95, 109, 105, 110]
def b2 (s : ByteArray) : Bool := s.toList == [99, 108, 97, 109, 112, 95, 109, 97, 120]
def b3 (s : ByteArray) : Bool := s.toList == [108, 97, 98, 101, 108, 95, 115, 101, 116]
def b4 (s : ByteArray) : Bool := s.toList == [116, 105, 109, 101]
def b5 (s : ByteArray) : Bool := s.toList == [115, 99, 97, 108, 97, 114]
def b6 (s : ByteArray) : Bool := s.toList == [118, 101, 99, 116, 111, 114]
def b7 (s : ByteArray) : Bool := s.toList == [97, 98, 115]
def b8 (s : ByteArray) : Bool := s.toList == [115, 103, 110]
def b9 (s : ByteArray) : Bool := s.toList == [97, 98, 115, 101, 110, 116]
def win (s : ByteArray) : Bool := decide (1 ≤ ixS windowL s 0)
/-- What a function takes, what it makes, whether there is one. -/
def sigT (s : ByteArray) : List Int × Int × Bool :=
  if b1 s then ([2, 5], 2, true) else if b2 s then ([2, 5], 2, true) else if b3 s then ([2, 4, 4], 2, true) else if b4 s then ([], 1, true) else if b5 s then ([2], 1, true) else if b6 s then ([1], 2, true)
  else if b7 s then ([2], 2, true) else if b8 s then ([2], 2, true) else if b9 s then ([2], 2, true) else if win s then ([3], 2, true) else ([], 0, false)
def ints (l : List Int) : List Value := l.map (.int .i64)
def SigPost (W : World) (s : ByteArray) (r : List Int × Int × Bool) (e : Ending) (W' : World) : Prop :=
  ∃ v, e = .returned (.tuple #[.agg #[.string (if r.2.2 then s else ⟨#[]⟩), v, .int .i64 r.2.1], .bool r.2.2]) ∧ Row W' Any v r.1.length 1 (ints r.1) ∧ Below W.heap.size W W'
theorem infoI : (Tryz.prog.info? 3).map (fun i => (i.zero, i.size, i.bytes)) = some (some (.int .i64 0), 1, 8) := by kernel_rfl
theorem ints_one (l : List Int) : ∀ u ∈ ints l, u.oneCell' = true := by
  intro u hu
  simp only [ints, List.mem_map] at hu
  obtain ⟨c, _, rfl⟩ := hu
  rfl
theorem wpList_appI {ops : Array Oper} {rest : List Oper} {o : Oper} {a : Act} {Q : Exit → Act → World → Prop} (hgd : o.guard = none) (s xo : Operand)
    (ho : o.op = .call { callee := .builtin .append, args := #[s, xo], argTypes := #[23, 23] })
    {B : Nat} {wr : World} {v : Value} {N : Nat} {l : List Int} (h : wr.ownsRow B 3 1 v N (ints l)) (hB : B ≤ wr.heap.size) (new : List Int) (h0 : 0 < new.length) (hN : N + new.length ≤ 1000) (cs : List Value) (hcs : cs = ints new)
    (H : Nat) (hH : wr.heap.size = H) (hs : a.eval s = v) (hx : a.eval xo = .slice (some ⟨H, 0, none⟩) new.length new.length)
    (hk : ∀ g cap w', w'.ownsRow B 3 1 (.slice (some ⟨g, 0, none⟩) (N + new.length) cap) (N + new.length) (ints (l ++ new)) → (wr.alloc (.cells cs.toArray 3)).grownBy w' v.ownBlock → (v.ownBlock = some g ∨ g = H + 1) → g < w'.heap.size → wpList Tryz.prog ops Q rest (a.put o.dst (.slice (some ⟨g, 0, none⟩) (N + new.length) cap)) w') :
    wpList Tryz.prog ops Q (o :: rest) a (wr.alloc (.cells cs.toArray 3)) := by
  subst hH hcs
  obtain ⟨i0, hi0, hz0, hz1, hz2⟩ := info_parts infoI
  refine wpList_append_lies _ hgd s xo 23 ho B 3 i0 (.int .i64 0) 1 8 Tryz.underlying23 hi0 hz0 hz1 hz2 rfl (by decide) v N (ints l) hs (h.alloc _) ⟨wr.heap.size, 0, none⟩ new.length new.length (ints new) hx (by simp [ints]) (World.news_of_block (cs := (ints new).toArray) (t := 3) (fr := (0, 0)) (blk_new _ _)) (ints_one _) h0 (by unfold maxLen; omega) (by omega) (by simp; omega) (wr.heap.size + 1) (by simp) ?_
  intro g cap w' hown hgrow hat hlt'
  refine hk g cap w' ?_ hgrow hat hlt'
  have : ints (l ++ new) = ints l ++ ints new := by simp [ints]
  rw [this]; exact hown
theorem range_set {w : World} {b o m j : Nat} {c : List Value} {u : Value} (h : w.rangeAt b o c) (hne : b ≠ m) : (w.setCell ⟨m, j, none⟩ u).rangeAt b o c := fun i v hv =>
  (World.cell?_of_block (Below.heap_setCell w _ u _ hne)).trans (h i v hv)
theorem range_alloc {w : World} {b o : Nat} {c : List Value} (h : w.rangeAt b o c) (o' : Obj) : (w.alloc o').rangeAt b o c := range_keep h fun hlt => Below.heap_alloc _ _ _ hlt
theorem blk_at (w : World) {n : Nat} (o : Obj) (h : w.heap.size = n) : (w.alloc o).heap[n]? = some o := by subst h; exact blk_new w o
theorem heap_set (w : World) {b k : Nat} (hk : ¬ k = b) (i : Nat) (u : Value) : (w.setCell ⟨b, i, none⟩ u).heap[k]? = w.heap[k]? := Below.heap_setCell w ⟨b, i, none⟩ u k hk
theorem row_ownG {w : World} {base e size : Nat} {v : Value} {n : Nat} {xs : List Value} (h : w.ownsRow base e size v n xs) : Row w (fun b => v.ownBlock = some b) v n size xs := by
  refine ⟨h.1, ?_⟩
  rcases h.2 with ⟨h1, h2⟩ | ⟨g, cap, cur, h1, h2, h3, h4, h5, h6, h7⟩
  · exact ⟨none, 0, by rw [h1, h2], fun h0 => by omega⟩
  · refine ⟨some ⟨g, 0, none⟩, cap, h1, fun _ => ⟨g, 0, by rw [h1]; rfl, rfl, fun j u hj => ?_⟩⟩
    rw [show 0 + j = j by omega, blk_cell h3]
    have hlt : j < xs.length := (List.getElem?_eq_some_iff.1 hj).1
    rw [← h7, List.getElem?_take, if_pos (by rw [← h.1]; exact hlt)] at hj
    rw [← Array.getElem?_toList]; exact hj
theorem after_app {W B0 w5 : World} {s : ByteArray} {o : Obj} {g : Nat} (hb : Below W.heap.size W B0) (hr : B0.heap[W.heap.size]? = some (.cells #[.string ⟨#[]⟩, .slice none 0 0, .int .i64 0] 25 (0, 0)))
    (hv : B0.heap[W.heap.size + 2]? = some (.cells #[.string s, .slice (some ⟨W.heap.size + 1, 0, none⟩) 1 1, .int .i64 2] 25 (0, 0))) (hs : B0.heap.size = W.heap.size + 3)
    (hg : (B0.alloc o).grownBy w5 (Value.slice (some ⟨W.heap.size + 1, 0, none⟩) 1 1).ownBlock) (hat : (Value.slice (some ⟨W.heap.size + 1, 0, none⟩) 1 1).ownBlock = some g ∨ g = B0.heap.size + 1) :
    Hid (Below W.heap.size W w5) ∧ Hid (w5.heap[W.heap.size]? = some (.cells #[.string ⟨#[]⟩, .slice none 0 0, .int .i64 0] 25 (0, 0))) ∧
    w5.cell? ⟨W.heap.size + 2, 0, none⟩ = some (.string s) ∧ w5.cell? ⟨W.heap.size + 2, 1, none⟩ = some (.slice (some ⟨W.heap.size + 1, 0, none⟩) 1 1) ∧ w5.cell? ⟨W.heap.size + 2, 2, none⟩ = some (.int .i64 2) ∧
    w5.frozen? ⟨W.heap.size + 2, 0, none⟩ = false ∧ w5.frozen? ⟨W.heap.size + 2, 1, none⟩ = false ∧ w5.frozen? ⟨W.heap.size + 2, 2, none⟩ = false ∧
    w5.cell? ⟨W.heap.size, 0, none⟩ = some (.string ⟨#[]⟩) ∧ w5.cell? ⟨W.heap.size, 1, none⟩ = some (.slice none 0 0) ∧ w5.cell? ⟨W.heap.size, 2, none⟩ = some (.int .i64 0) ∧
    w5.frozen? ⟨W.heap.size, 0, none⟩ = false ∧ w5.frozen? ⟨W.heap.size, 1, none⟩ = false ∧ w5.frozen? ⟨W.heap.size, 2, none⟩ = false ∧ (¬ g = W.heap.size) ∧ (¬ g = W.heap.size + 2) ∧ W.heap.size < w5.heap.size ∧ W.heap.size + 2 < w5.heap.size := by
  have h0 : w5.heap[W.heap.size]? = _ := (hg.block W.heap.size (by simp; omega) (by intro h; simp [Value.ownBlock] at h)).trans (blk_alloc hr o)
  have h2 : w5.heap[W.heap.size + 2]? = _ := (hg.block (W.heap.size + 2) (by simp; omega) (by intro h; simp [Value.ownBlock] at h)).trans (blk_alloc hv o)
  have hgg : g = W.heap.size + 1 ∨ g = B0.heap.size + 1 := by
    rcases hat with h | h
    · left; simp [Value.ownBlock] at h; exact h.symm
    · exact .inr h
  refine ⟨Lib.hid ((hb.alloc (by omega) o).grown hg (by simp; omega) (fun k hk => by simp [Value.ownBlock] at hk; omega)), Lib.hid h0, blk_cell h2 0, blk_cell h2 1, blk_cell h2 2, blk_frozen h2 0, blk_frozen h2 1, blk_frozen h2 2, blk_cell h0 0, blk_cell h0 1, blk_cell h0 2, blk_frozen h0 0, blk_frozen h0 1, blk_frozen h0 2, by omega, by omega, blk_lt h0, blk_lt h2⟩
theorem sig_calls (s : ByteArray) (W : World) : Calls Tryz.prog 5 #[.string s] W (SigPost W s (sigT s)) := by
  obtain ⟨B0, hB0⟩ : ∃ B0, B0 = ((W.alloc (.cells #[.string ⟨#[]⟩, .slice none 0 0, .int .i64 0] 25)).alloc (.cells #[.int .i64 2] 3)).alloc (.cells #[.string s, .slice (some ⟨W.heap.size + 1, 0, none⟩) 1 1, .int .i64 2] 25) := ⟨_, rfl⟩
  have hx : ((W.alloc (.cells #[.string ⟨#[]⟩, .slice none 0 0, .int .i64 0] 25)).alloc (.cells #[.int .i64 2] 3)).alloc (.cells #[.string s, .slice (some ⟨W.heap.size + 1, 0, none⟩) 1 1, .int .i64 2] 25) = B0 := hB0.symm
  have hb0 : Below W.heap.size W B0 := by rw [hB0]; exact (((Below.refl _ _).alloc (Nat.le_refl _) _).alloc (by simp) _).alloc (by simp; omega) _
  have s0 : B0.heap.size = W.heap.size + 3 := by rw [hB0]; simp
  have hr : B0.heap[W.heap.size]? = some (.cells #[.string ⟨#[]⟩, .slice none 0 0, .int .i64 0] 25 (0, 0)) := by rw [hB0]; exact blk_alloc (blk_alloc (blk_new W _) _) _
  have ha : B0.heap[W.heap.size + 1]? = some (.cells #[.int .i64 2] 3 (0, 0)) := by rw [hB0]; exact blk_alloc (blk_new2 W _ _) _
  have hv : B0.heap[W.heap.size + 2]? = some (.cells #[.string s, .slice (some ⟨W.heap.size + 1, 0, none⟩) 1 1, .int .i64 2] 25 (0, 0)) := by
    rw [hB0]
    have := blk_new ((W.alloc (.cells #[.string ⟨#[]⟩, .slice none 0 0, .int .i64 0] 25)).alloc (.cells #[.int .i64 2] 3)) (.cells #[.string s, .slice (some ⟨W.heap.size + 1, 0, none⟩) 1 1, .int .i64 2] 25)
    simpa using this
  clear hB0
  obtain ⟨x1, h1⟩ : ∃ x, b1 s = x := ⟨_, rfl⟩
  have q1 := h1; unfold b1 at q1
  unfold sigT
  rw [h1]
  have r0 : B0.cell? ⟨W.heap.size, 0, none⟩ = some (.string ⟨#[]⟩) := blk_cell hr 0
  have r1 : B0.cell? ⟨W.heap.size, 1, none⟩ = some (.slice none 0 0) := blk_cell hr 1
  have r2 : B0.cell? ⟨W.heap.size, 2, none⟩ = some (.int .i64 0) := blk_cell hr 2
  have t0 : B0.frozen? ⟨W.heap.size, 0, none⟩ = false := blk_frozen hr 0
  have t1 : B0.frozen? ⟨W.heap.size, 1, none⟩ = false := blk_frozen hr 1
  have t2 : B0.frozen? ⟨W.heap.size, 2, none⟩ = false := blk_frozen hr 2
  have c0 : B0.cell? ⟨W.heap.size + 2, 0, none⟩ = some (.string s) := blk_cell hv 0
  have c1 : B0.cell? ⟨W.heap.size + 2, 1, none⟩ = some (.slice (some ⟨W.heap.size + 1, 0, none⟩) 1 1) := blk_cell hv 1
  have c2 : B0.cell? ⟨W.heap.size + 2, 2, none⟩ = some (.int .i64 2) := blk_cell hv 2
  have f0 : B0.frozen? ⟨W.heap.size + 2, 0, none⟩ = false := blk_frozen hv 0
  have f1 : B0.frozen? ⟨W.heap.size + 2, 1, none⟩ = false := blk_frozen hv 1
  have f2 : B0.frozen? ⟨W.heap.size + 2, 2, none⟩ = false := blk_frozen hv 2
  have g1 : W.heap.size < B0.heap.size := by omega
  have g2 : W.heap.size + 2 < B0.heap.size := by omega
  have hown : B0.ownsRow W.heap.size 3 1 (.slice (some ⟨W.heap.size + 1, 0, none⟩) 1 1) 1 (ints [2]) := ⟨rfl, .inr ⟨W.heap.size + 1, 1, #[.int .i64 2], rfl, by omega, ha, by decide, by decide, rfl, rfl⟩⟩
  have HB0 := Lib.hid hb0; have HR := Lib.hid hr; have HA := Lib.hid ha; have HV := Lib.hid hv; have HOwn := Lib.hid hown; have HS0 := Lib.hid s0
  clear hb0 hr ha hv hown s0
  cases x1 with
  | true =>
    clear h1
    go_enter Tryz.func5, Tryz.ntmps5
    go_wp2_with (at_builtin; refine wpList_appI rfl (.tmp 28) (.tmp 29) rfl HOwn.out (by have := HS0.out; omega) [5] (by decide) (by decide) [.int .i64 5] rfl _ rfl rfl rfl ?_; intro g cap w5 hown5 hgrow5 hat5 hlt5; have hf := after_app HB0.out HR.out HV.out HS0.out hgrow5 hat5; obtain ⟨HB5, HR5, d0, d1, d2, e0, e1, e2, k0, k1, k2, l0, l1, l2, hne1, hne2, hl1, hl2⟩ := hf; have HOw5 := Lib.hid hown5; have HLt5 := Lib.hid hlt5; clear hown5 hgrow5 hat5 hlt5 r0 r1 r2 t0 t1 t2 c0 c1 c2 f0 f1 f2)
    refine bodyPost_ret (v := .tuple #[.agg #[.string s, .slice (some ⟨g, 0, none⟩) (1 + [5].length) cap, .int .i64 2], .bool true]) (by simp [results, Tryz.results5, go_sem, *]) rfl ⟨_, rfl, ?_, ?_⟩
    · exact (row_ownG HOw5.out).keep (by decide) fun b hF hlt => ⟨by
        obtain rfl : g = b := by simpa [Value.ownBlock] using hF
        exact (heap_set _ hne1 _ _).trans ((heap_set _ hne1 _ _).trans ((heap_set _ hne1 _ _).trans (heap_set _ hne2 _ _))), trivial⟩
    · exact (((HB5.out.setCell (Nat.le_add_right W.heap.size 2) _).setCell (Nat.le_refl _) _).setCell (Nat.le_refl _) _).setCell (Nat.le_refl _) _
  | false =>
  obtain ⟨x2, h2⟩ : ∃ x, b2 s = x := ⟨_, rfl⟩
  have q2 := h2; unfold b2 at q2
  rw [h2]
  clear h1 h2
  cases x2 with
  | true =>
    go_enter Tryz.func5, Tryz.ntmps5
    go_wp2_with (at_builtin; refine wpList_appI rfl (.tmp 28) (.tmp 29) rfl HOwn.out (by have := HS0.out; omega) [5] (by decide) (by decide) [.int .i64 5] rfl _ rfl rfl rfl ?_; intro g cap w5 hown5 hgrow5 hat5 hlt5; have hf := after_app HB0.out HR.out HV.out HS0.out hgrow5 hat5; obtain ⟨HB5, HR5, d0, d1, d2, e0, e1, e2, k0, k1, k2, l0, l1, l2, hne1, hne2, hl1, hl2⟩ := hf; have HOw5 := Lib.hid hown5; have HLt5 := Lib.hid hlt5; clear hown5 hgrow5 hat5 hlt5 r0 r1 r2 t0 t1 t2 c0 c1 c2 f0 f1 f2)
    refine bodyPost_ret (v := .tuple #[.agg #[.string s, .slice (some ⟨g, 0, none⟩) (1 + [5].length) cap, .int .i64 2], .bool true]) (by simp [results, Tryz.results5, go_sem, *]) rfl ⟨_, rfl, ?_, ?_⟩
    · exact (row_ownG HOw5.out).keep (by decide) fun b hF hlt => ⟨by
        obtain rfl : g = b := by simpa [Value.ownBlock] using hF
        exact (heap_set _ hne1 _ _).trans ((heap_set _ hne1 _ _).trans ((heap_set _ hne1 _ _).trans (heap_set _ hne2 _ _))), trivial⟩
    · exact (((HB5.out.setCell (Nat.le_add_right W.heap.size 2) _).setCell (Nat.le_refl _) _).setCell (Nat.le_refl _) _).setCell (Nat.le_refl _) _
  | false =>
  obtain ⟨x3, h3⟩ : ∃ x, b3 s = x := ⟨_, rfl⟩
  have q3 := h3; unfold b3 at q3
  rw [h3]
  clear h3
  cases x3 with
  | true =>
    go_enter Tryz.func5, Tryz.ntmps5
    go_wp2_with (at_builtin; refine wpList_appI rfl (.tmp 33) (.tmp 34) rfl HOwn.out (by have := HS0.out; omega) [4, 4] (by decide) (by decide) [.int .i64 4, .int .i64 4] rfl _ rfl rfl rfl ?_; intro g cap w5 hown5 hgrow5 hat5 hlt5; have hf := after_app HB0.out HR.out HV.out HS0.out hgrow5 hat5; obtain ⟨HB5, HR5, d0, d1, d2, e0, e1, e2, k0, k1, k2, l0, l1, l2, hne1, hne2, hl1, hl2⟩ := hf; have HOw5 := Lib.hid hown5; have HLt5 := Lib.hid hlt5; clear hown5 hgrow5 hat5 hlt5 r0 r1 r2 t0 t1 t2 c0 c1 c2 f0 f1 f2)
    refine bodyPost_ret (v := .tuple #[.agg #[.string s, .slice (some ⟨g, 0, none⟩) (1 + [4, 4].length) cap, .int .i64 2], .bool true]) (by simp [results, Tryz.results5, go_sem, *]) rfl ⟨_, rfl, ?_, ?_⟩
    · exact (row_ownG HOw5.out).keep (by decide) fun b hF hlt => ⟨by
        obtain rfl : g = b := by simpa [Value.ownBlock] using hF
        exact (heap_set _ hne1 _ _).trans ((heap_set _ hne1 _ _).trans ((heap_set _ hne1 _ _).trans (heap_set _ hne2 _ _))), trivial⟩
    · exact (((HB5.out.setCell (Nat.le_add_right W.heap.size 2) _).setCell (Nat.le_refl _) _).setCell (Nat.le_refl _) _).setCell (Nat.le_refl _) _
  | false =>
  obtain ⟨x4, h4⟩ : ∃ x, b4 s = x := ⟨_, rfl⟩
  have q4 := h4; unfold b4 at q4
  rw [h4]
  clear h4
  cases x4 with
  | true =>
    go_enter Tryz.func5, Tryz.ntmps5
    go_wp2_with fail
    refine bodyPost_ret (v := .tuple #[.agg #[.string s, .slice none 0 0, .int .i64 1], .bool true]) (by simp [results, Tryz.results5, go_sem, *]) rfl ⟨_, rfl, row_nil _ _ _, ?_⟩
    exact ((((HB0.out.setCell (Nat.le_add_right W.heap.size 2) _).setCell (Nat.le_add_right W.heap.size 2) _).setCell (Nat.le_refl _) _).setCell (Nat.le_refl _) _).setCell (Nat.le_refl _) _
  | false =>
  obtain ⟨x5, h5⟩ : ∃ x, b5 s = x := ⟨_, rfl⟩
  have q5 := h5; unfold b5 at q5
  rw [h5]
  clear h5
  cases x5 with
  | true =>
    go_enter Tryz.func5, Tryz.ntmps5
    go_wp2_with fail
    refine bodyPost_ret (v := .tuple #[.agg #[.string s, .slice (some ⟨W.heap.size + 1, 0, none⟩) 1 1, .int .i64 1], .bool true]) (by simp [results, Tryz.results5, go_sem, *]) rfl ⟨_, rfl, ⟨rfl, _, _, rfl, fun _ => ⟨_, 0, trivial, rfl, ?_⟩⟩, ?_⟩
    · exact range_set (range_set (range_set (range_set (range_blk (c := ints [2]) HA.out) (by omega)) (by omega)) (by omega)) (by omega)
    · exact (((HB0.out.setCell (Nat.le_add_right W.heap.size 2) _).setCell (Nat.le_refl _) _).setCell (Nat.le_refl _) _).setCell (Nat.le_refl _) _
  | false =>
  obtain ⟨x6, h6⟩ : ∃ x, b6 s = x := ⟨_, rfl⟩
  have q6 := h6; unfold b6 at q6
  rw [h6]
  clear h6
  cases x6 with
  | true =>
    go_enter Tryz.func5, Tryz.ntmps5
    go_wp2_with fail
    refine bodyPost_ret (v := .tuple #[.agg #[.string s, .slice (some ⟨B0.heap.size, 0, none⟩) 1 1, .int .i64 2], .bool true]) (by simp [results, Tryz.results5, go_sem, *]) rfl ⟨_, rfl, ⟨rfl, _, _, rfl, fun _ => ⟨_, 0, trivial, rfl, range_blk (c := ints [1]) (blk_at _ _ (by simp [World.setCell]))⟩⟩, ?_⟩
    exact ((((HB0.out.setCell (Nat.le_add_right W.heap.size 2) _).setCell (Nat.le_refl _) _).setCell (Nat.le_refl _) _).setCell (Nat.le_refl _) _).alloc (by simp [World.setCell]; omega) _
  | false =>
  obtain ⟨x7, h7⟩ : ∃ x, b7 s = x := ⟨_, rfl⟩
  have q7 := h7; unfold b7 at q7
  rw [h7]
  clear h7
  cases x7 with
  | true =>
    go_enter Tryz.func5, Tryz.ntmps5
    go_wp2_with fail
    refine bodyPost_ret (v := .tuple #[.agg #[.string s, .slice (some ⟨W.heap.size + 1, 0, none⟩) 1 1, .int .i64 2], .bool true]) (by simp [results, Tryz.results5, go_sem, *]) rfl ⟨_, rfl, ⟨rfl, _, _, rfl, fun _ => ⟨_, 0, trivial, rfl, ?_⟩⟩, ?_⟩
    · exact range_set (range_set (range_set (range_blk (c := ints [2]) HA.out) (by omega)) (by omega)) (by omega)
    · exact ((HB0.out.setCell (Nat.le_refl _) _).setCell (Nat.le_refl _) _).setCell (Nat.le_refl _) _
  | false =>
  obtain ⟨x8, h8⟩ : ∃ x, b8 s = x := ⟨_, rfl⟩
  have q8 := h8; unfold b8 at q8
  rw [h8]
  clear h8
  cases x8 with
  | true =>
    go_enter Tryz.func5, Tryz.ntmps5
    go_wp2_with fail
    refine bodyPost_ret (v := .tuple #[.agg #[.string s, .slice (some ⟨W.heap.size + 1, 0, none⟩) 1 1, .int .i64 2], .bool true]) (by simp [results, Tryz.results5, go_sem, *]) rfl ⟨_, rfl, ⟨rfl, _, _, rfl, fun _ => ⟨_, 0, trivial, rfl, ?_⟩⟩, ?_⟩
    · exact range_set (range_set (range_set (range_blk (c := ints [2]) HA.out) (by omega)) (by omega)) (by omega)
    · exact ((HB0.out.setCell (Nat.le_refl _) _).setCell (Nat.le_refl _) _).setCell (Nat.le_refl _) _
  | false =>
  obtain ⟨x9, h9⟩ : ∃ x, b9 s = x := ⟨_, rfl⟩
  have q9 := h9; unfold b9 at q9
  rw [h9]
  clear h9
  cases x9 with
  | true =>
    go_enter Tryz.func5, Tryz.ntmps5
    go_wp2_with fail
    refine bodyPost_ret (v := .tuple #[.agg #[.string s, .slice (some ⟨W.heap.size + 1, 0, none⟩) 1 1, .int .i64 2], .bool true]) (by simp [results, Tryz.results5, go_sem, *]) rfl ⟨_, rfl, ⟨rfl, _, _, rfl, fun _ => ⟨_, 0, trivial, rfl, ?_⟩⟩, ?_⟩
    · exact range_set (range_set (range_set (range_blk (c := ints [2]) HA.out) (by omega)) (by omega)) (by omega)
    · exact ((HB0.out.setCell (Nat.le_refl _) _).setCell (Nat.le_refl _) _).setCell (Nat.le_refl _) _
  | false =>
  have hW := windowNamed_calls s _ rfl B0
  obtain ⟨x0, h0⟩ : ∃ x, win s = x := ⟨_, rfl⟩
  have q0 := h0; unfold win at q0
  rw [q0] at hW
  rw [h0]
  have HW := Lib.hid hW
  clear h0 hW q0
  cases x0 with
  | true =>
    go_enter Tryz.func5, Tryz.ntmps5
    go_wp2_with fail
    (with_reducible refine HW.out.mono ?_)
    rintro e W3 ⟨rfl, hb3⟩
    have hr3 := (hb3.block _ (blk_lt HR.out)).trans HR.out
    have hv3 := (hb3.block _ (blk_lt HV.out)).trans HV.out
    have g31 : W.heap.size < W3.heap.size := blk_lt hr3
    have g32 : W.heap.size + 2 < W3.heap.size := blk_lt hv3
    have y0 : W3.cell? ⟨W.heap.size, 0, none⟩ = some (.string ⟨#[]⟩) := blk_cell hr3 0
    have y1 : W3.cell? ⟨W.heap.size, 1, none⟩ = some (.slice none 0 0) := blk_cell hr3 1
    have y2 : W3.cell? ⟨W.heap.size, 2, none⟩ = some (.int .i64 0) := blk_cell hr3 2
    have z0 : W3.frozen? ⟨W.heap.size, 0, none⟩ = false := blk_frozen hr3 0
    have z1 : W3.frozen? ⟨W.heap.size, 1, none⟩ = false := blk_frozen hr3 1
    have z2 : W3.frozen? ⟨W.heap.size, 2, none⟩ = false := blk_frozen hr3 2
    have w0 : W3.cell? ⟨W.heap.size + 2, 0, none⟩ = some (.string s) := blk_cell hv3 0
    have w1 : W3.cell? ⟨W.heap.size + 2, 1, none⟩ = some (.slice (some ⟨W.heap.size + 1, 0, none⟩) 1 1) := blk_cell hv3 1
    have w2 : W3.cell? ⟨W.heap.size + 2, 2, none⟩ = some (.int .i64 2) := blk_cell hv3 2
    have v1 : W3.frozen? ⟨W.heap.size + 2, 1, none⟩ = false := blk_frozen hv3 1
    have HB3 := Lib.hid (HB0.out.trans (hb3.mono (by have := HS0.out; omega)))
    clear hb3 hr3 hv3 r0 r1 r2 t0 t1 t2 c0 c1 c2 f0 f1 f2
    go_wp2_with fail
    all_goals
      refine bodyPost_ret (v := .tuple #[.agg #[.string s, .slice (some ⟨W3.heap.size, 0, none⟩) 1 1, .int .i64 2], .bool true]) (by simp [results, Tryz.results5, go_sem, *]) rfl ⟨_, rfl, ⟨rfl, _, _, rfl, fun _ => ⟨_, 0, trivial, rfl, range_blk (c := ints [3]) (blk_at _ _ (by simp [World.setCell]))⟩⟩, ?_⟩
      exact ((((HB3.out.setCell (Nat.le_add_right W.heap.size 2) _).setCell (Nat.le_refl _) _).setCell (Nat.le_refl _) _).setCell (Nat.le_refl _) _).alloc (by simp [World.setCell]; omega) _
  | false =>
    go_enter Tryz.func5, Tryz.ntmps5
    go_wp2_with fail
    (with_reducible refine HW.out.mono ?_)
    rintro e W3 ⟨rfl, hb3⟩
    have hr3 := (hb3.block _ (blk_lt HR.out)).trans HR.out
    have hv3 := (hb3.block _ (blk_lt HV.out)).trans HV.out
    have g31 : W.heap.size < W3.heap.size := blk_lt hr3
    have g32 : W.heap.size + 2 < W3.heap.size := blk_lt hv3
    have y0 : W3.cell? ⟨W.heap.size, 0, none⟩ = some (.string ⟨#[]⟩) := blk_cell hr3 0
    have y1 : W3.cell? ⟨W.heap.size, 1, none⟩ = some (.slice none 0 0) := blk_cell hr3 1
    have y2 : W3.cell? ⟨W.heap.size, 2, none⟩ = some (.int .i64 0) := blk_cell hr3 2
    have z0 : W3.frozen? ⟨W.heap.size, 0, none⟩ = false := blk_frozen hr3 0
    have z1 : W3.frozen? ⟨W.heap.size, 1, none⟩ = false := blk_frozen hr3 1
    have z2 : W3.frozen? ⟨W.heap.size, 2, none⟩ = false := blk_frozen hr3 2
    have w0 : W3.cell? ⟨W.heap.size + 2, 0, none⟩ = some (.string s) := blk_cell hv3 0
    have w1 : W3.cell? ⟨W.heap.size + 2, 1, none⟩ = some (.slice (some ⟨W.heap.size + 1, 0, none⟩) 1 1) := blk_cell hv3 1
    have w2 : W3.cell? ⟨W.heap.size + 2, 2, none⟩ = some (.int .i64 2) := blk_cell hv3 2
    have v1 : W3.frozen? ⟨W.heap.size + 2, 1, none⟩ = false := blk_frozen hv3 1
    have HB3 := Lib.hid (HB0.out.trans (hb3.mono (by have := HS0.out; omega)))
    clear hb3 hr3 hv3 r0 r1 r2 t0 t1 t2 c0 c1 c2 f0 f1 f2
    go_wp2_with fail
    all_goals
      refine bodyPost_ret (v := .tuple #[.agg #[.string ⟨#[]⟩, .slice none 0 0, .int .i64 0], .bool false]) (by simp [results, Tryz.results5, go_sem, *]) rfl ⟨_, rfl, row_nil _ _ _, ?_⟩
      exact ((HB3.out.setCell (Nat.le_refl _) _).setCell (Nat.le_refl _) _).setCell (Nat.le_refl _) _
end Go.Proofs.YtjddnchenhnemaaGreatDoor.Ps
