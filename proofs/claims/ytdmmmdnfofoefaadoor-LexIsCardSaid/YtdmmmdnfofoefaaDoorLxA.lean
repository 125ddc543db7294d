/-
  All tokens of two texts; what the statements of the lexer ask first; LexIs.
-/
import Derived.Test.YtdmmmdnfofoefaaDoorLxT
namespace Go.Proofs.YtdmmmdnfofoefaaDoor.Lx
open Go Go.RowKit Go.Proofs.YtdmmmdnfofoefaaDoor.QT Go.Proofs.YtdmmmdnfofoefaaDoor.Rg
set_option maxHeartbeats 8000000
set_option maxRecDepth 100000

def tkz : Value := .agg #[.int .i64 0, .int .i64 0, .string ⟨#[]⟩, .float .f64 0, .int .i64 0]
theorem infoTok : (Tryd.prog.info? 26).map (fun i => (i.zero, i.size, i.bytes)) = some (some tkz, 5, 48) := by kernel_rfl
/-- A row of tokens of one's own. -/
structure Tks (W wr : World) (v : Value) (N : Nat) (cs : List Value) : Prop where
  own : wr.ownsRow W.heap.size 26 5 v N cs
  bel : Below W.heap.size W wr
theorem Tks.below {W wr w' : World} {v : Value} {N : Nat} {cs : List Value} (h : Tks W wr v N cs) (hb : Below wr.heap.size wr w') : Tks W w' v N cs := by
  refine ⟨⟨h.own.1, ?_⟩, h.bel.trans (hb.mono h.bel.size)⟩
  rcases h.own.2 with h1 | ⟨g, cap, cur, h1, h2, h3, h4⟩
  · exact .inl h1
  · exact .inr ⟨g, cap, cur, h1, h2, (hb.block g (blk_lt h3)).trans h3, h4⟩
theorem wpList_tks {ops : Array Oper} {rest : List Oper} {o : Oper} {a : Act} {Q : Exit → Act → World → Prop} (hgd : o.guard = none) (s xo : Operand)
    (ho : o.op = .call { callee := .builtin .append, args := #[s, xo], argTypes := #[28, 28] })
    {W wr : World} {v : Value} {N : Nat} {cs : List Value} (h : Tks W wr v N cs) (new : List Value) (hl : new.length = 5) (h1 : ∀ u ∈ new, u.oneCell' = true) (hN : N ≤ 1000)
    (H : Nat) (hH : wr.heap.size = H) (hs : a.eval s = v) (hx : a.eval xo = .slice (some ⟨H, 0, none⟩) 1 1)
    (hk : ∀ g cap w', Tks W w' (.slice (some ⟨g, 0, none⟩) (N + 1) cap) (N + 1) (cs ++ new) → Below W.heap.size W w' → wpList Tryd.prog ops Q rest (a.put o.dst (.slice (some ⟨g, 0, none⟩) (N + 1) cap)) w') :
    wpList Tryd.prog ops Q (o :: rest) a (wr.alloc (.cells new.toArray 26)) := by
  subst hH
  obtain ⟨i0, hi0, hz0, hz1, hz2⟩ := info_parts infoTok
  have hsz := h.bel.size
  refine wpList_append_lies _ hgd s xo 28 ho W.heap.size 26 i0 tkz 5 48 Tryd.underlying28 hi0 hz0 hz1 hz2 rfl (by decide) v N cs hs (h.own.alloc _) ⟨wr.heap.size, 0, none⟩ 1 1 new hx (by rw [hl]) (World.news_of_block (cs := new.toArray) (t := 26) (fr := (0, 0)) (blk_new _ _)) h1 (by decide) (by unfold maxLen; omega) (by omega) (by simp; omega) (wr.heap.size + 1) (by simp) ?_
  intro g cap w' hown hgrow hat hlt'
  have hB := (h.bel.alloc hsz _).grown hgrow (by simp; omega) (fun k hk => (h.own.lt k hk).1)
  exact hk g cap w' ⟨hown, hB⟩ hB
theorem one5 (k a : Int) (s : ByteArray) (v : Nat) (n : Int) : ∀ u ∈ [Value.int .i64 k, .int .i64 a, .string s, .float .f64 v, .int .i64 n], u.oneCell' = true := by
  intro u hu
  simp only [List.mem_cons, List.mem_nil_iff, or_false] at hu
  rcases hu with rfl | rfl | rfl | rfl | rfl <;> rfl
def cellsL : List Value := [.int .i64 1, .int .i64 0, .string tRate, .float .f64 0, .int .i64 0, .int .i64 5, .int .i64 4, .string tPar, .float .f64 0, .int .i64 0, .int .i64 1, .int .i64 5, .string tA, .float .f64 0, .int .i64 0, .int .i64 5, .int .i64 6, .string tBra, .float .f64 0, .int .i64 0, .int .i64 3, .int .i64 7, .string s5m, .float .f64 0, .int .i64 300000, .int .i64 5, .int .i64 9, .string tKet, .float .f64 0, .int .i64 0, .int .i64 5, .int .i64 10, .string tRap, .float .f64 0, .int .i64 0, .int .i64 5, .int .i64 12, .string tGe, .float .f64 0, .int .i64 0, .int .i64 2, .int .i64 15, .string sN, .float .f64 4654311885213007872, .int .i64 0]
def AllL (W : World) (e : Ending) (w' : World) : Prop := ∃ v, e = .returned (.tuple #[v, .int .i64 0, .int .i64 0]) ∧ Tks W w' v 9 cellsL
theorem all_L (W : World) (hT : Tabs W) : Calls Tryd.prog 6 #[.string sL] W (AllL W) := by
  have z := sL_size
  have hst := run_store_float
  have HT := Lib.hid hT
  clear hT
  go_enter Tryd.func6, Tryd.ntmps6
  go_wp2_with fail
  refine wp_loop_rounds 10 ?_
  have HK0 : Hid (Tks W W (.slice none 0 0) 0 []) := Lib.hid ⟨⟨rfl, .inl ⟨rfl, rfl⟩⟩, Below.refl _ _⟩
  rw [rounds_succ]
  go_wp2_with fail
  refine (next_sL_0 _).mono ?_
  rintro e v1 ⟨rfl, hb⟩
  have HN1 := Lib.hid (HK0.out.below (hb.trans ((Below.refl _ _).mono hb.size)))
  have HS1 := Lib.hid hb.size
  clear hb HK0
  unfold tok
  go_wp2_with (at_builtin; refine wpList_tks rfl (.tmp 30) (.tmp 32) rfl (HN1.out.below ((Below.refl _ _).alloc (Nat.le_refl _) (.cells #[.int .i64 1, .int .i64 0, .string tRate, .float .f64 0, .int .i64 0] 26))) [.int .i64 1, .int .i64 0, .string tRate, .float .f64 0, .int .i64 0] rfl (one5 _ _ _ _ _) (by decide) _ (by simp) rfl rfl ?_; intro g1 cap1 w1 hk1 hb1; have HK1 := Lib.hid hk1; clear hk1 hb1)
  rw [rounds_succ]
  go_wp2_with fail
  refine (next_sL_4 _).mono ?_
  rintro e v2 ⟨rfl, hb⟩
  have HN2 := Lib.hid (HK1.out.below (hb.trans ((Below.refl _ _).mono hb.size)))
  have HS2 := Lib.hid hb.size
  clear hb HK1
  unfold tok
  go_wp2_with (at_builtin; refine wpList_tks rfl (.tmp 30) (.tmp 32) rfl (HN2.out.below ((Below.refl _ _).alloc (Nat.le_refl _) (.cells #[.int .i64 5, .int .i64 4, .string tPar, .float .f64 0, .int .i64 0] 26))) [.int .i64 5, .int .i64 4, .string tPar, .float .f64 0, .int .i64 0] rfl (one5 _ _ _ _ _) (by decide) _ (by simp) rfl rfl ?_; intro g2 cap2 w2 hk2 hb2; have HK2 := Lib.hid hk2; clear hk2 hb2)
  rw [rounds_succ]
  go_wp2_with fail
  refine (next_sL_5 _).mono ?_
  rintro e v3 ⟨rfl, hb⟩
  have HN3 := Lib.hid (HK2.out.below (hb.trans ((Below.refl _ _).mono hb.size)))
  have HS3 := Lib.hid hb.size
  clear hb HK2
  unfold tok
  go_wp2_with (at_builtin; refine wpList_tks rfl (.tmp 30) (.tmp 32) rfl (HN3.out.below ((Below.refl _ _).alloc (Nat.le_refl _) (.cells #[.int .i64 1, .int .i64 5, .string tA, .float .f64 0, .int .i64 0] 26))) [.int .i64 1, .int .i64 5, .string tA, .float .f64 0, .int .i64 0] rfl (one5 _ _ _ _ _) (by decide) _ (by simp) rfl rfl ?_; intro g3 cap3 w3 hk3 hb3; have HK3 := Lib.hid hk3; clear hk3 hb3)
  rw [rounds_succ]
  go_wp2_with fail
  refine (next_sL_6 _).mono ?_
  rintro e v4 ⟨rfl, hb⟩
  have HN4 := Lib.hid (HK3.out.below (hb.trans ((Below.refl _ _).mono hb.size)))
  have HS4 := Lib.hid hb.size
  clear hb HK3
  unfold tok
  go_wp2_with (at_builtin; refine wpList_tks rfl (.tmp 30) (.tmp 32) rfl (HN4.out.below ((Below.refl _ _).alloc (Nat.le_refl _) (.cells #[.int .i64 5, .int .i64 6, .string tBra, .float .f64 0, .int .i64 0] 26))) [.int .i64 5, .int .i64 6, .string tBra, .float .f64 0, .int .i64 0] rfl (one5 _ _ _ _ _) (by decide) _ (by simp) rfl rfl ?_; intro g4 cap4 w4 hk4 hb4; have HK4 := Lib.hid hk4; clear hk4 hb4)
  rw [rounds_succ]
  go_wp2_with fail
  refine (next_sL_7 _).mono ?_
  rintro e v5 ⟨rfl, hb⟩
  have HN5 := Lib.hid (HK4.out.below (hb.trans ((Below.refl _ _).mono hb.size)))
  have HS5 := Lib.hid hb.size
  clear hb HK4
  unfold tok
  go_wp2_with (at_builtin; refine wpList_tks rfl (.tmp 30) (.tmp 32) rfl (HN5.out.below ((Below.refl _ _).alloc (Nat.le_refl _) (.cells #[.int .i64 3, .int .i64 7, .string s5m, .float .f64 0, .int .i64 300000] 26))) [.int .i64 3, .int .i64 7, .string s5m, .float .f64 0, .int .i64 300000] rfl (one5 _ _ _ _ _) (by decide) _ (by simp) rfl rfl ?_; intro g5 cap5 w5 hk5 hb5; have HK5 := Lib.hid hk5; clear hk5 hb5)
  rw [rounds_succ]
  go_wp2_with fail
  refine (next_sL_9 _).mono ?_
  rintro e v6 ⟨rfl, hb⟩
  have HN6 := Lib.hid (HK5.out.below (hb.trans ((Below.refl _ _).mono hb.size)))
  have HS6 := Lib.hid hb.size
  clear hb HK5
  unfold tok
  go_wp2_with (at_builtin; refine wpList_tks rfl (.tmp 30) (.tmp 32) rfl (HN6.out.below ((Below.refl _ _).alloc (Nat.le_refl _) (.cells #[.int .i64 5, .int .i64 9, .string tKet, .float .f64 0, .int .i64 0] 26))) [.int .i64 5, .int .i64 9, .string tKet, .float .f64 0, .int .i64 0] rfl (one5 _ _ _ _ _) (by decide) _ (by simp) rfl rfl ?_; intro g6 cap6 w6 hk6 hb6; have HK6 := Lib.hid hk6; clear hk6 hb6)
  rw [rounds_succ]
  go_wp2_with fail
  refine (next_sL_10 _).mono ?_
  rintro e v7 ⟨rfl, hb⟩
  have HN7 := Lib.hid (HK6.out.below (hb.trans ((Below.refl _ _).mono hb.size)))
  have HS7 := Lib.hid hb.size
  clear hb HK6
  unfold tok
  go_wp2_with (at_builtin; refine wpList_tks rfl (.tmp 30) (.tmp 32) rfl (HN7.out.below ((Below.refl _ _).alloc (Nat.le_refl _) (.cells #[.int .i64 5, .int .i64 10, .string tRap, .float .f64 0, .int .i64 0] 26))) [.int .i64 5, .int .i64 10, .string tRap, .float .f64 0, .int .i64 0] rfl (one5 _ _ _ _ _) (by decide) _ (by simp) rfl rfl ?_; intro g7 cap7 w7 hk7 hb7; have HK7 := Lib.hid hk7; clear hk7 hb7)
  rw [rounds_succ]
  go_wp2_with fail
  refine (next_sL_11 _).mono ?_
  rintro e v8 ⟨rfl, hb⟩
  have HN8 := Lib.hid (HK7.out.below (hb.trans ((Below.refl _ _).mono hb.size)))
  have HS8 := Lib.hid hb.size
  clear hb HK7
  unfold tok
  go_wp2_with (at_builtin; refine wpList_tks rfl (.tmp 30) (.tmp 32) rfl (HN8.out.below ((Below.refl _ _).alloc (Nat.le_refl _) (.cells #[.int .i64 5, .int .i64 12, .string tGe, .float .f64 0, .int .i64 0] 26))) [.int .i64 5, .int .i64 12, .string tGe, .float .f64 0, .int .i64 0] rfl (one5 _ _ _ _ _) (by decide) _ (by simp) rfl rfl ?_; intro g8 cap8 w8 hk8 hb8; have HK8 := Lib.hid hk8; clear hk8 hb8)
  rw [rounds_succ]
  go_wp2_with fail
  refine (next_sL_14 _ (HT.out.below HK8.out.bel)).mono ?_
  rintro e v9 ⟨rfl, hb⟩
  have HN9 := Lib.hid (HK8.out.below (hb.trans ((Below.refl _ _).mono hb.size)))
  have HS9 := Lib.hid hb.size
  clear hb HK8
  unfold tok
  go_wp2_with (at_builtin; refine wpList_tks rfl (.tmp 30) (.tmp 32) rfl (HN9.out.below ((Below.refl _ _).alloc (Nat.le_refl _) (.cells #[.int .i64 2, .int .i64 15, .string sN, .float .f64 4654311885213007872, .int .i64 0] 26))) [.int .i64 2, .int .i64 15, .string sN, .float .f64 4654311885213007872, .int .i64 0] rfl (one5 _ _ _ _ _) (by decide) _ (by simp) rfl rfl ?_; intro g9 cap9 w9 hk9 hb9; have HK9 := Lib.hid hk9; clear hk9 hb9)
  rw [rounds_succ]
  go_wp2_with fail
  refine (next_sL_20 _).mono ?_
  rintro e v10 ⟨rfl, hb⟩
  have HN10 := Lib.hid (HK9.out.below hb)
  clear hb
  unfold tok
  go_wp2_with fail
  go_ret3
  exact ⟨_, rfl, HN10.out.below ((Below.refl _ _).alloc (Nat.le_refl _) _)⟩
theorem all_M (W : World) : Calls Tryd.prog 6 #[.string sM] W (Gives (.tuple #[.slice none 0 0, .int .i64 2, .int .i64 2]) W) := by
  have z := sM_size
  have hst := run_store_float
  go_enter Tryd.func6, Tryd.ntmps6
  go_wp2_with fail
  refine wp_loop_rounds 2 ?_
  rw [rounds_succ]
  go_wp2_with fail
  refine (next_sM_0 _).mono ?_
  rintro e v1 ⟨rfl, hb⟩
  have HN1 := Lib.hid ((⟨⟨rfl, .inl ⟨rfl, rfl⟩⟩, Below.refl _ _⟩ : Tks W W (.slice none 0 0) 0 []).below hb)
  clear hb
  unfold tok
  go_wp2_with (at_builtin; refine wpList_tks rfl (.tmp 30) (.tmp 32) rfl (HN1.out.below ((Below.refl _ _).alloc (Nat.le_refl _) (.cells #[.int .i64 1, .int .i64 0, .string tA, .float .f64 0, .int .i64 0] 26))) [.int .i64 1, .int .i64 0, .string tA, .float .f64 0, .int .i64 0] rfl (one5 _ _ _ _ _) (by decide) _ (by simp) rfl rfl ?_; intro g1 cap1 w1 hk1 hb1; have HB1 := Lib.hid hb1; clear hk1 hb1)
  rw [rounds_succ]
  go_wp2_with fail
  refine (next_sM_1 _).mono ?_
  rintro e v2 ⟨rfl, hb⟩
  have HB2 := Lib.hid (HB1.out.trans (hb.mono HB1.out.size))
  clear hb
  unfold tok
  go_wp2_with fail
  go_ret3
  exact ⟨rfl, HB2.out.alloc HB2.out.size _⟩
end Go.Proofs.YtdmmmdnfofoefaaDoor.Lx
