/-
  A query is read that is a whole text (package prom).
-/
import Derived.Test.YtjddnchenhnemaaGreatDoorPsP
import Derived.Test.YtjddnchenhnemaaGreatDoorPsQ
namespace Go.Proofs.YtjddnchenhnemaaGreatDoor.Ps
open Go Go.RowKit Go.Proofs.YtjddnchenhnemaaGreatDoor.QT Go.Proofs.YtjddnchenhnemaaGreatDoor.Rg Go.Proofs.YtjddnchenhnemaaGreatDoor.Ma Go.Proofs.YtjddnchenhnemaaGreatDoor.Ir Go.Proofs.YtjddnchenhnemaaGreatDoor.Pm Go.Proofs.YtjddnchenhnemaaGreatDoor.Le
set_option maxHeartbeats 8000000
set_option maxRecDepth 100000
/-- A tree comes back, in new memory. -/
def ParsePost (n : Xn) (W : World) (e : Ending) (W' : World) : Prop := ∃ c : List Value, e = .returned (.tuple #[.agg c.toArray, .int .i64 0, .int .i64 0]) ∧ n.Held W' (From W.heap.size) c ∧ Below W.heap.size W W'
theorem results_tree {fn : Func} {p : Nat} {s1 s2 : Nat} (h : fn.results = #[.cell p 42, .tmp s1, .tmp s2]) (tmps : Array Value) (w : World) (g : Nat) (cs : Array Value)
    (hp : tmps.getD p undef = .pointer (some ⟨g, 0, none⟩)) (hg : w.heap[g]? = some (.cells cs 42 (0, 0))) (hc : cs.size = 17) (u v : Value) (h1 : tmps.getD s1 undef = u) (h2 : tmps.getD s2 undef = v) :
    (results fn tmps).run Tryz.prog w = .ok (.tuple #[.agg cs, u, v]) w := by
  have hp' : tmps[p]?.getD undef = .pointer (some ⟨g, 0, none⟩) := by simpa using hp
  have h1' : tmps[s1]?.getD undef = u := by simpa using h1
  have h2' : tmps[s2]?.getD undef = v := by simpa using h2
  simp [results, h, hp', h1', h2', asAddr, run_loadVar_row w g 42 42 cs (0, 0) _ hg Tryz.underlying42 rfl (by rw [sizeX, hc])]
theorem row_of_own {w : World} {base e size : Nat} {v : Value} {n : Nat} {xs : List Value} (h : w.ownsRow base e size v n xs) (hs : 0 < size) : Row w (fun b => b < w.heap.size) v n size xs := by
  refine ⟨h.1, ?_⟩
  rcases h.2 with ⟨h1, h2⟩ | ⟨g, cap, cur, h1, h2, h3, h4, h5, h6, h7⟩
  · exact ⟨none, 0, by rw [h1, h2], fun h0 => by omega⟩
  · refine ⟨some ⟨g, 0, none⟩, cap, h1, fun _ => ⟨g, 0, blk_lt h3, rfl, fun j u hj => ?_⟩⟩
    rw [show 0 + j = j by omega, blk_cell h3]
    have hlt : j < xs.length := (List.getElem?_eq_some_iff.1 hj).1
    rw [← h7, List.getElem?_take, if_pos (by rw [← h.1]; exact hlt)] at hj
    rw [← Array.getElem?_toList]; exact hj
theorem parse_calls (T : World → Prop) (hT : ∀ W W', T W → Below W.heap.size W W' → T W') (s : ByteArray) (ts : List Tk) (n : Xn) (hs : s.size ≤ 4096) (hts : ts.length ≤ 4096) (h : Toks T s 0 ts)
    (hn : n.tot ≤ 400) (hd : n.dep ≤ 40) (hR : ∀ (g : Nat) (v : Value) (W : World), PS ⟨g, v, ts, (s.size : Int), false⟩ W 0 0 → Calls Tryz.prog 23 #[.pointer (some ⟨g, 0, none⟩)] W (ReadsTo ⟨g, v, ts, (s.size : Int), false⟩ n ts.length 0 W)) (W : World) (hW : T W) :
    Calls Tryz.prog 15 #[.string s, .bool false] W (ParsePost n W) := by
  obtain ⟨B0, hB0⟩ : ∃ B0, B0 = W.alloc (.cells xz.toArray 42) := ⟨_, rfl⟩
  have hb0 : Below W.heap.size W B0 := by rw [hB0]; exact (Below.refl _ _).alloc (Nat.le_refl _) _
  have hrb : B0.heap[W.heap.size]? = some (.cells xz.toArray 42 (0, 0)) := by rw [hB0]; exact blk_new W _
  have s0 : B0.heap.size = W.heap.size + 1 := by rw [hB0]; simp
  have hx : W.alloc (.cells #[.int .i64 0, .int .i64 0, .float .f64 0, .string ⟨#[]⟩, .slice none 0 0, .int .i64 0, .int .i64 0, .int .i64 0, .int .i64 0, .bool false, .int .i64 0, .slice none 0 0, .int .i64 0, .slice none 0 0, .int .i64 0, .slice none 0 0, .slice none 0 0] 42) = B0 := hB0.symm
  have HA := Lib.hid (all_calls T hT s ts hs h B0 (hT _ _ hW hb0))
  have HB0 := Lib.hid hb0; have HRB := Lib.hid hrb; have HR := Lib.hid hR
  clear hB0 hb0 hrb hT h hR hW
  go_enter Tryz.func15, Tryz.ntmps15
  go_wp2_with fail
  clear hx
  (with_reducible refine HA.out.mono ?_)
  rintro e W1 ⟨v, rfl, htk⟩
  have hrow := row_of_own htk.own (by decide)
  have hb1 := htk.bel
  obtain ⟨_, ao, cap, rfl, _⟩ := id hrow
  obtain ⟨g, hg⟩ : ∃ g, W1.heap.size = g := ⟨_, rfl⟩
  have hB2 : Below W1.heap.size W1 (W1.alloc (.cells #[.slice ao ts.length cap, .int .i64 0, .int .i64 (s.size : Int), .bool false, .int .i64 0, .int .i64 0, .int .i64 0] 64)) := (Below.refl _ _).alloc (Nat.le_refl _) _
  have hP2 : PS ⟨g, .slice ao ts.length cap, ts, (s.size : Int), false⟩ (W1.alloc (.cells #[.slice ao ts.length cap, .int .i64 0, .int .i64 (s.size : Int), .bool false, .int .i64 0, .int .i64 0, .int .i64 0] 64)) 0 0 :=
    ⟨by rw [← hg]; exact blk_new W1 _, hrow.keep (by decide) (fun b hF hlt => ⟨hB2.block b hlt, by show b ≠ g; omega⟩), hts, Nat.zero_le _, by decide⟩
  have HQ := Lib.hid (HR.out g _ _ hP2)
  have HB2 := Lib.hid (hb1.trans (hB2.mono hb1.size))
  have hgs : g < (W1.alloc (.cells #[.slice ao ts.length cap, .int .i64 0, .int .i64 (s.size : Int), .bool false, .int .i64 0, .int .i64 0, .int .i64 0] 64)).heap.size := hP2.lt
  have hg1 : W.heap.size + 1 ≤ g := by have := hb1.size; omega
  clear hP2 hrow htk hb1 hB2
  go_wp2_with fail
  try rw [hg]
  clear hg
  generalize W1.alloc (.cells #[.slice ao ts.length cap, .int .i64 0, .int .i64 (s.size : Int), .bool false, .int .i64 0, .int .i64 0, .int .i64 0] 64) = W2 at HQ HB2 hgs ⊢
  (with_reducible refine HQ.out.mono ?_)
  rintro e W3 ⟨c, rfl, hn3, hp3, ho3⟩
  have hl3 := hn3.length
  have h13 := hn3.one
  obtain ⟨c0, c1, -, -, -, c5, -⟩ := hp3.cells
  have hs3 := ho3.size
  have hbx : Below W3.heap.size W3 (W3.alloc (.cells c.toArray 42)) := (Below.refl _ _).alloc (Nat.le_refl _) _
  have hE4 := blk_new W3 (.cells c.toArray 42)
  have hR3 := (ho3.block W.heap.size (by omega) (by show W.heap.size ≠ g; omega)).trans ((HB2.out.block _ (blk_lt HRB.out)).trans HRB.out)
  have hn4 := Xn.Held.keep (F1 := From W2.heap.size) (Keeps.from (Nat.le_refl _) fun b _ hlt => hbx.block b hlt) n hn3
  have HG := Lib.hid (great_calls n hn hd _ c hn4.any)
  have HN4 := Lib.hid hn4; have HE4 := Lib.hid hE4; have H13 := Lib.hid h13
  have HR4 := Lib.hid ((hbx.block _ (blk_lt hR3)).trans hR3)
  have HO4 := Lib.hid (ho3.below hbx)
  have hgl : g < W3.heap.size := hp3.lt
  clear hn3 hp3 ho3 h13 hbx hE4 hR3 hn4
  have c0' : W3.cell? ⟨g, 0, none⟩ = some (.slice ao ts.length cap) := c0
  have c1' : W3.cell? ⟨g, 1, none⟩ = some (.int .i64 (ts.length : Int)) := c1
  have c5' : W3.cell? ⟨g, 5, none⟩ = some (.int .i64 0) := c5
  clear c0 c1 c5
  go_wp2_with (first | (with_reducible refine wpList_newX rfl rfl 11 (.tmp 30) rfl rfl rfl rfl c rfl rfl hl3 H13.out ?_) | (with_reducible refine wpList_loadX rfl _ rfl W3.heap.size 0 rfl c (range_blk HE4.out) hl3 ?_))
  (with_reducible refine HG.out.mono ?_)
  rintro e W5 ⟨rfl, hb5⟩
  have HE5 := Lib.hid ((hb5.block _ (blk_lt HE4.out)).trans HE4.out)
  have HR5 := Lib.hid ((hb5.block _ (blk_lt HR4.out)).trans HR4.out)
  have HN5 := Lib.hid (Xn.Held.keep (F1 := From W2.heap.size) (Keeps.from (Nat.le_refl _) fun b _ hlt => hb5.block b hlt) n HN4.out)
  have HO5 := Lib.hid (HO4.out.below hb5)
  clear hb5 c0' c1' c5'
  go_wp2_with (first | (with_reducible refine wpList_loadX rfl _ rfl W3.heap.size 0 rfl c (range_blk HE5.out) hl3 ?_) | (with_reducible refine wpList_setX rfl _ _ rfl W.heap.size xz c HR5.out rfl rfl rfl hl3 H13.out ?_))
  refine bodyPost_ret_by (results_tree rfl _ _ W.heap.size c.toArray rfl (setRow_heap _ _ _ _ _ _ HR5.out) (by simp [hl3]) _ _ rfl rfl) rfl ?_
  have h2 := HB2.out.size
  refine ⟨c, rfl, Xn.Held.keep (Keeps.from (by omega) fun b hb _ => setRow_other _ _ _ _ (by omega)) n HN5.out, ?_⟩
  have hbw := HB0.out.trans (HB2.out.mono (by omega))
  exact ⟨HO5.out.os.trans hbw.os, HO5.out.tape.trans hbw.tape, HO5.out.output.trans hbw.output, by have := HO5.out.size; simp; omega, fun k hk => (setRow_other _ _ _ _ (by omega)).trans ((HO5.out.block k (by omega) (by show k ≠ g; omega)).trans (hbw.block k hk))⟩
theorem Parse_calls (s : ByteArray) (n : Xn) (T : World → Prop) (hT : ∀ W W', T W → Below W.heap.size W W' → T W') (h : ∀ W, T W → Calls Tryz.prog 15 #[.string s, .bool false] W (ParsePost n W)) (W : World) (hW : T W) :
    Calls Tryz.prog 9 #[.string s] W (ParsePost n W) := by
  obtain ⟨B0, hB0⟩ : ∃ B0, B0 = W.alloc (.cells xz.toArray 42) := ⟨_, rfl⟩
  have hb0 : Below W.heap.size W B0 := by rw [hB0]; exact (Below.refl _ _).alloc (Nat.le_refl _) _
  have hrb : B0.heap[W.heap.size]? = some (.cells xz.toArray 42 (0, 0)) := by rw [hB0]; exact blk_new W _
  have s0 : B0.heap.size = W.heap.size + 1 := by rw [hB0]; simp
  have hx : W.alloc (.cells #[.int .i64 0, .int .i64 0, .float .f64 0, .string ⟨#[]⟩, .slice none 0 0, .int .i64 0, .int .i64 0, .int .i64 0, .int .i64 0, .bool false, .int .i64 0, .slice none 0 0, .int .i64 0, .slice none 0 0, .int .i64 0, .slice none 0 0, .slice none 0 0] 42) = B0 := hB0.symm
  have HA := Lib.hid (h B0 (hT _ _ hW hb0))
  have HB0 := Lib.hid hb0; have HRB := Lib.hid hrb
  clear hB0 hb0 hrb hT h hW
  go_enter Tryz.func9, Tryz.ntmps9
  go_wp2_with fail
  clear hx
  (with_reducible refine HA.out.mono ?_)
  rintro e W1 ⟨c, rfl, hn1, hb1⟩
  have hl3 := hn1.length
  have H13 := Lib.hid hn1.one
  have HR5 := Lib.hid ((hb1.block _ (blk_lt HRB.out)).trans HRB.out)
  have HN1 := Lib.hid hn1; have HB1 := Lib.hid hb1
  clear hn1 hb1
  go_wp2_with (with_reducible refine wpList_setX rfl _ _ rfl W.heap.size xz c HR5.out rfl rfl rfl hl3 H13.out ?_)
  refine bodyPost_ret_by (results_tree rfl _ _ W.heap.size c.toArray rfl (setRow_heap _ _ _ _ _ _ HR5.out) (by simp [hl3]) _ _ rfl rfl) rfl ?_
  exact ⟨c, rfl, Xn.Held.keep (Keeps.from (by omega) fun b hb _ => setRow_other _ _ _ _ (by omega)) n HN1.out, below_row (HB0.out.trans (HB1.out.mono (by omega))) (Nat.le_refl _) _⟩
end Go.Proofs.YtjddnchenhnemaaGreatDoor.Ps
