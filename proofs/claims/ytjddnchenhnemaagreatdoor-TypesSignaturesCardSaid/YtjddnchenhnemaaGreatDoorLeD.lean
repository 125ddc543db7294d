/-
  The lexer: numbers and durations of one or two bytes; all tokens of a text.
-/
import Derived.Test.YtjddnchenhnemaaGreatDoorLeC
namespace Go.Proofs.YtjddnchenhnemaaGreatDoor.Le
open Go Go.RowKit Go.Proofs.YtjddnchenhnemaaGreatDoor.QT Go.Proofs.YtjddnchenhnemaaGreatDoor.Rg Go.Proofs.YtjddnchenhnemaaGreatDoor.Ma Go.Proofs.YtjddnchenhnemaaGreatDoor.Ir
set_option maxHeartbeats 8000000
set_option maxRecDepth 100000

/-! All tokens -/
def tkz : Value := .agg #[.int .i64 0, .int .i64 0, .string ⟨#[]⟩, .float .f64 0, .int .i64 0]
theorem infoTok : (Tryz.prog.info? 86).map (fun i => (i.zero, i.size, i.bytes)) = some (some tkz, 5, 48) := by kernel_rfl
/-- A row of tokens of one's own. -/
structure Tks (W wr : World) (v : Value) (N : Nat) (cs : List Value) : Prop where
  own : wr.ownsRow W.heap.size 86 5 v N cs
  bel : Below W.heap.size W wr
theorem Tks.below {W wr w' : World} {v : Value} {N : Nat} {cs : List Value} (h : Tks W wr v N cs) (hb : Below wr.heap.size wr w') : Tks W w' v N cs := by
  refine ⟨⟨h.own.1, ?_⟩, h.bel.trans (hb.mono h.bel.size)⟩
  rcases h.own.2 with h1 | ⟨g, cap, cur, h1, h2, h3, h4⟩
  · exact .inl h1
  · exact .inr ⟨g, cap, cur, h1, h2, (hb.block g (blk_lt h3)).trans h3, h4⟩
theorem wpList_tks {ops : Array Oper} {rest : List Oper} {o : Oper} {a : Act} {Q : Exit → Act → World → Prop} (hgd : o.guard = none) (s xo : Operand)
    (ho : o.op = .call { callee := .builtin .append, args := #[s, xo], argTypes := #[59, 59] })
    {W wr : World} {v : Value} {N : Nat} {cs : List Value} (h : Tks W wr v N cs) (t : Tk) (hN : N ≤ 100000)
    (H : Nat) (hH : wr.heap.size = H) (hs : a.eval s = v) (hx : a.eval xo = .slice (some ⟨H, 0, none⟩) 1 1)
    (hk : ∀ g cap w', Tks W w' (.slice (some ⟨g, 0, none⟩) (N + 1) cap) (N + 1) (cs ++ t.cells) → Below W.heap.size W w' → wpList Tryz.prog ops Q rest (a.put o.dst (.slice (some ⟨g, 0, none⟩) (N + 1) cap)) w') :
    wpList Tryz.prog ops Q (o :: rest) a (wr.alloc (.cells #[.int .i64 t.kind, .int .i64 t.at_, .string t.text, .float .f64 t.v, .int .i64 t.n] 86)) := by
  subst hH
  obtain ⟨i0, hi0, hz0, hz1, hz2⟩ := info_parts infoTok
  have hsz := h.bel.size
  refine wpList_append_lies _ hgd s xo 59 ho W.heap.size 86 i0 tkz 5 48 Tryz.underlying59 hi0 hz0 hz1 hz2 rfl (by decide) v N cs hs (h.own.alloc _) ⟨wr.heap.size, 0, none⟩ 1 1 t.cells hx (by rfl) (World.news_of_block (cs := t.cells.toArray) (t := 86) (fr := (0, 0)) (blk_new _ _)) (by
      intro u hu
      simp only [Tk.cells, List.mem_cons, List.not_mem_nil, or_false] at hu
      rcases hu with rfl | rfl | rfl | rfl | rfl <;> rfl) (by decide) (by unfold maxLen; omega) (by omega) (by simp; omega) (wr.heap.size + 1) (by simp) ?_
  intro g cap w' hown hgrow hat hlt'
  have hB := (h.bel.alloc hsz _).grown hgrow (by simp; omega) (fun k hk => (h.own.lt k hk).1)
  exact hk g cap w' ⟨hown, hB⟩ hB
def tcells (l : List Tk) : List Value := l.flatMap Tk.cells
/-- From place i on just these tokens stand. -/
def Toks (T : World → Prop) (s : ByteArray) : Nat → List Tk → Prop
  | i, [] => i ≤ s.size ∧ ∃ t j, t.kind = 0 ∧ ∀ W, T W → Calls Tryz.prog 43 #[.string s, .int .i64 (i : Int)] W (NextPost W t j)
  | i, t :: ts => (t.kind == 0) = false ∧ i < s.size ∧ ∃ j, i < j ∧ j ≤ s.size ∧ (∀ W, T W → Calls Tryz.prog 43 #[.string s, .int .i64 (i : Int)] W (NextPost W t j)) ∧ Toks T s j ts
def AllPost (W : World) (ts : List Tk) (e : Ending) (w' : World) : Prop := ∃ v, e = .returned (.tuple #[v, .int .i64 0, .int .i64 0]) ∧ Tks W w' v ts.length (tcells ts)
theorem all_calls (T : World → Prop) (hT : ∀ W W', T W → Below W.heap.size W W' → T W') (s : ByteArray) (ts : List Tk) (hs : s.size ≤ 4096) (h : Toks T s 0 ts) (W : World) (hW : T W) :
    Calls Tryz.prog 22 #[.string s] W (AllPost W ts) := by
  have hst := run_store_float
  have HTB := Lib.hid hT; clear hT
  have HTk := Lib.hid h; clear h
  have HW := Lib.hid hW; clear hW
  go_enter Tryz.func22, Tryz.ntmps22
  go_wp2_with fail
  go_loopw [5, 6] (fun v p wr => ∃ (done rest : List Tk) (i : Nat), ts = done ++ rest ∧ i ≤ s.size ∧ Toks T s i rest ∧ p = .int .i64 (i : Int) ∧ done.length ≤ i ∧ Tks W wr v done.length (tcells done)) (fun _ p _ => s.size - (intOf p).toNat)
  case atStart => exact ⟨[], ts, 0, rfl, Nat.zero_le _, HTk.out, rfl, Nat.le_refl _, ⟨rfl, .inl ⟨rfl, rfl⟩⟩, Below.refl _ _⟩
  case round =>
    obtain ⟨done, rest, i, hts, hi, htk, rfl, hdl, hk⟩ := hrel
    have HK := Lib.hid hk; clear hk
    have HTS := Lib.hid hts; clear hts
    have hTw := HTB.out _ _ HW.out HK.out.bel
    have HTw := Lib.hid hTw; clear hTw
    cases rest with
    | nil =>
      obtain ⟨_, t, j, h0, hC⟩ := htk
      have t0 : (t.kind == 0) = true := by rw [beq_iff_eq]; exact h0
      have HC := Lib.hid hC; clear hC h0
      go_wp2_with fail
      (with_reducible refine (HC.out _ HTw.out).mono ?_)
      rintro e w1 ⟨rfl, hb⟩
      have HK1 := Lib.hid (HK.out.below hb); clear hb
      unfold Tk.val
      go_wp2_with fail
      go_ret3
      refine ⟨_, rfl, ?_⟩
      rw [HTS.out, List.append_nil]
      exact HK1.out.below ((Below.refl _ _).alloc (Nat.le_refl _) _)
    | cons t rest =>
      obtain ⟨t0, hlt, j, hij, hjs, hC, hrest⟩ := htk
      have HC := Lib.hid hC; clear hC
      have HR := Lib.hid hrest; clear hrest
      go_wp2_with fail
      (with_reducible refine (HC.out _ HTw.out).mono ?_)
      rintro e w1 ⟨rfl, hb⟩
      have HK1 := Lib.hid ((HK.out.below hb).below ((Below.refl _ _).alloc (Nat.le_refl _) (.cells #[.int .i64 t.kind, .int .i64 t.at_, .string t.text, .float .f64 t.v, .int .i64 t.n] 86))); clear hb
      unfold Tk.val
      go_wp2_with (at_builtin; refine wpList_tks rfl (.tmp 30) (.tmp 32) rfl HK1.out t (by omega) _ (by simp) rfl rfl ?_; intro g1 cap1 w2 hk2 hb2; have HK2 := Lib.hid hk2; clear hk2 hb2)
      go_roundw
      case rel => exact ⟨done ++ [t], rest, j, by rw [HTS.out]; simp, hjs, HR.out, rfl, by simp; omega, by
        have h := HK2.out
        simp only [List.length_append, List.length_cons, List.length_nil, tcells, List.flatMap_append, List.flatMap_cons, List.flatMap_nil, List.append_nil] at h ⊢
        exact h⟩
      case measure => (simp [intOf] <;> omega)
end Go.Proofs.YtjddnchenhnemaaGreatDoor.Le
