/-
  The method reach of a program.
-/
import Derived.Test.YtokcffkffcfolaaRgN
namespace Go.Proofs.Ytokcffkffcfolaa.Rg
open Go Go.RowKit

/-- A frame of reach. -/
def ReachFr (a : Act) (s0 s1 s2 s9 : Value) : Prop := ∃ u : Nat → Value, a = { tmps := #[s0, s1, s2, u 3, undef, undef, undef, undef, .slice none 0 0, s9, u 10, u 11, u 12, u 13, u 14, u 15, u 16, u 17, u 18, u 19, u 20, u 21, u 22, u 23, u 24, u 25, u 26, u 27, u 28, u 29, u 30, u 31, u 32, u 33, u 34, u 35, u 36, u 37, u 38, u 39, u 40, u 41, u 42, u 43, u 44, u 45, u 46, u 47, u 48, u 49, u 50, u 51, u 52, u 53, u 54, u 55, u 56, u 57, u 58, u 59, u 60, u 61, u 62, u 63, u 64], defers := [] }
theorem ReachFr.mk (s0 s1 s2 x3 s9 x10 x11 x12 x13 x14 x15 x16 x17 x18 x19 x20 x21 x22 x23 x24 x25 x26 x27 x28 x29 x30 x31 x32 x33 x34 x35 x36 x37 x38 x39 x40 x41 x42 x43 x44 x45 x46 x47 x48 x49 x50 x51 x52 x53 x54 x55 x56 x57 x58 x59 x60 x61 x62 x63 x64 : Value) : ReachFr { tmps := #[s0, s1, s2, x3, undef, undef, undef, undef, .slice none 0 0, s9, x10, x11, x12, x13, x14, x15, x16, x17, x18, x19, x20, x21, x22, x23, x24, x25, x26, x27, x28, x29, x30, x31, x32, x33, x34, x35, x36, x37, x38, x39, x40, x41, x42, x43, x44, x45, x46, x47, x48, x49, x50, x51, x52, x53, x54, x55, x56, x57, x58, x59, x60, x61, x62, x63, x64], defers := [] } s0 s1 s2 s9 :=
  ⟨fun i => #[s0, s1, s2, x3, undef, undef, undef, undef, .slice none 0 0, s9, x10, x11, x12, x13, x14, x15, x16, x17, x18, x19, x20, x21, x22, x23, x24, x25, x26, x27, x28, x29, x30, x31, x32, x33, x34, x35, x36, x37, x38, x39, x40, x41, x42, x43, x44, x45, x46, x47, x48, x49, x50, x51, x52, x53, x54, x55, x56, x57, x58, x59, x60, x61, x62, x63, x64].getD i undef, rfl⟩

def wr_frozen (w : World) (b i : Nat) : Prop := w.frozen? ⟨b, i, none⟩ = false
def ReachPost (base bi p : Nat) (P : List Inst) (W0 : World) (m : List Bool) (l : List Nat) (e : Ending) (W' : World) : Prop :=
  ∃ v', e = .returned v' ∧ IsProg W' p P ∧ W'.heap[bi]? = some (.cells (boolVals m) 4 (0, 0)) ∧ W'.ownsRow base 3 1 v' l.length (outVals l) ∧ FrI base bi W0 W'

theorem succs_lt {P : List Inst} (hP : WF P) (i : Nat) : ∀ j ∈ succs P i, j < P.length := by
  intro j hj
  unfold succs at hj
  cases h : P[i]? with
  | none => rw [h] at hj; simp at hj
  | some x =>
    rw [h] at hj
    have hx := hP i x h
    simp only at hj
    split at hj
    · rename_i hk
      have := hx.1 hk
      simp at hj
      omega
    · split at hj
      · rename_i hk
        have := hx.2.1 hk
        simp at hj
        omega
      · simp at hj

set_option maxRecDepth 100000 in
set_option maxHeartbeats 4000000 in
theorem reach_calls (base bi p : Nat) (P : List Inst) (hP : WF P) (_hPl : P.length ≤ 20000) (W : World) (m : List Bool) (l : List Nat) (vl : Value) (i : Nat) (hpr : IsProg W p P) (hbi : W.heap[bi]? = some (.cells (boolVals m) 4 (0, 0)))
    (hlo : W.ownsRow base 3 1 vl l.length (outVals l)) (hb : base ≤ W.heap.size) (hml : m.length = P.length) (hi : i < P.length) (hl : l.length + cf m ≤ 20000) :
    Calls Try.prog 32 #[.pointer (some ⟨p, 0, none⟩), .slice (some ⟨bi, 0, none⟩) P.length P.length, vl, .int .i64 i] W
      (ReachPost base bi p P W (reachF P (2 * cf m + 1) m l [i]).1 (reachF P (2 * cf m + 1) m l [i]).2) := by
  obtain ⟨i0, hi0, hz0, hz1, hz2⟩ := info_parts infoInt
  have hcm : cf m ≤ P.length := by rw [← hml]; exact List.count_le_length
  have hws : (W.alloc (.cells #[.int .i64 (i : Int)] 3)).ownsRow base 3 1 (.slice (some ⟨W.heap.size, 0, none⟩) 1 1) 1 (outVals [i].reverse) :=
    World.ownsRow_lit W #[.int .i64 (i : Int)] 1 hb (by unfold maxLen; omega) rfl
  have hrs : RS base bi p P W (W.alloc (.cells #[.int .i64 (i : Int)] 3)) m l [i] vl (.slice (some ⟨W.heap.size, 0, none⟩) 1 1) :=
    ⟨hpr.alloc _, blk_alloc hbi _, hlo.alloc _, hws, fun k hk e => by
      have := (hlo.lt k hk).2
      simp [Value.ownBlock] at e
      omega, (FrI.refl _ _ _).alloc hb _⟩
  have HRS := Lib.hid hrs; clear hrs hws hpr hbi hlo
  have HP := Lib.hid hP; clear hP
  have HML := Lib.hid hml; clear hml
  go_enter Try.func32, Try.ntmps32
  go_wp2_with fail
  refine QT.wp_scope_loop 0 (fun n a' w' => ∃ (m1 : List Bool) (l1 st : List Nat) (v1 vw : Value), ReachFr a' (.pointer (some ⟨p, 0, none⟩)) (.slice (some ⟨bi, 0, none⟩) P.length P.length) v1 vw ∧ RS base bi p P W w' m1 l1 st v1 vw ∧
    m1.length = P.length ∧ (∀ j ∈ st, j < P.length) ∧ 2 * cf m1 + st.length ≤ n ∧ n ≤ 50000 ∧ l1.length + cf m1 ≤ 20000 ∧ reachF P n m1 l1 st = reachF P (2 * cf m + 1) m l [i]) rfl ?_ ?_
  · intro hpass
    have HP2 := Lib.hid hpass; clear hpass
    go_wp2_with fail
    go_step3
    rename_i Qv K hK
    exact hK _ _ (HP2.out (2 * cf m + 1) _ _ ⟨m, l, [i], vl, _, ReachFr.mk _ _ _ _ _ _ _ _ _ _ _ _ _ _ _ _ _ _ _ _ _ _ _ _ _ _ _ _ _ _ _ _ _ _ _ _ _ _ _ _ _ _ _ _ _ _ _ _ _ _ _ _ _ _ _ _ _ _ _ _, HRS.out, HML.out, by simpa using hi, by simp, by omega, hl, rfl⟩)
  · rintro n a' w' ⟨m1, l1, st, v1, vw, ⟨u, rfl⟩, hR, hm1, hst, hfu, hn5, hl1, hT⟩
    have HT := Lib.hid hT; clear hT
    cases st with
    | nil =>
      have hTr : reachF P n m1 l1 [] = (m1, l1) := by cases n <;> rfl
      have hw := hR.wo
      obtain ⟨ao, cap, rfl⟩ := own_any hw
      have HR := Lib.hid hR; clear hR hw
      have HTr := Lib.hid hTr; clear hTr
      have HS := Lib.hid hst; clear hst
      go_wp2
      simp only [Exit.jump]
      go_ret
      refine ⟨v1, rfl, HR.out.prog, ?_, ?_, HR.out.fr⟩
      · rw [← HT.out, HTr.out]; exact HR.out.inb
      · rw [← HT.out, HTr.out]; exact HR.out.lo
    | cons j st =>
      have hjP : j < P.length := hst j (by simp)
      have hst' : ∀ k ∈ st, k < P.length := fun k hk => hst k (by simp [hk])
      obtain ⟨wb, cap, rfl, hwb, hwl⟩ := hR.wo.form (by simp)
      rw [List.length_cons] at hR hfu
      obtain ⟨n, rfl⟩ : ∃ k, n = k + 1 := ⟨n - 1, by omega⟩
      have htop := hR.top
      obtain ⟨hcap1, hcap2⟩ := own_cap hR.wo
      have hne0 : ((st.length : Int) + 1 == 0) = false := by rw [beq_eq_false_iff_ne]; omega
      have hjm : j < m1.length := by omega
      have hmk := hR.marks j hjm
      have hfz : wr_frozen w' bi j := blk_frozen hR.inb j
      unfold wr_frozen at hfz
      have hpop := hR.pop
      obtain ⟨b, hb'⟩ : ∃ b, b = m1[j] := ⟨_, rfl⟩
      rw [← hb'] at hmk
      have HS := Lib.hid hst'; clear hst hst'
      have HR := Lib.hid hpop; clear hpop hR
      have HB := Lib.hid hb'; clear hb'
      have hjl : (j : Int) < (P.length : Int) := by omega
      have HM1 := Lib.hid hm1; clear hm1
      have hst_l : st.length ≤ 50000 := by omega
      cases b with
      | true =>
        have hT2 : reachF P n m1 l1 st = reachF P (2 * cf m + 1) m l [i] := by
          rw [← HT.out, reachF, if_pos]
          simp [List.getD, List.getElem?_eq_getElem hjm, ← HB.out]
        have HT2 := Lib.hid hT2; clear hT2
        go_wp2_with fail
        go_step3
        exact ⟨rfl, n, Nat.lt_succ_self n, m1, l1, st, v1, _, ReachFr.mk _ _ _ _ _ _ _ _ _ _ _ _ _ _ _ _ _ _ _ _ _ _ _ _ _ _ _ _ _ _ _ _ _ _ _ _ _ _ _ _ _ _ _ _ _ _ _ _ _ _ _ _ _ _ _ _ _ _ _ _, HR.out, HM1.out, HS.out, by omega, by omega, hl1, HT2.out⟩
      | false =>
        have hbj : m1[j]? = some false := by rw [List.getElem?_eq_getElem hjm, ← HB.out]
        have hcs := cf_set m1 j hbj
        have hT2 : reachF P n (m1.set j true) (l1 ++ [j]) (succs P j ++ st) = reachF P (2 * cf m + 1) m l [i] := by
          rw [← HT.out, reachF, if_neg]
          simp [List.getD, hbj]
        have hsu := succs_lt HP.out j
        have hR1 := HR.out.mark j
        have HT2 := Lib.hid hT2; clear hT2 hbj
        have HSu := Lib.hid hsu; clear hsu
        have HR1 := Lib.hid hR1; clear hR1
        have hws := HR.out.fr.size
        have hxj : P[j]? = some (P[j]'hjP) := List.getElem?_eq_getElem hjP
        obtain ⟨x, hx⟩ : ∃ x, x = P[j]'hjP := ⟨_, rfl⟩
        rw [← hx] at hxj
        have HX := Lib.hid hxj; clear hxj hx
        have HCS := Lib.hid hcs; clear hcs
        have hsl : ∀ k ∈ succs P j ++ st, k < P.length := fun k hk => by
          rcases List.mem_append.1 hk with hk | hk
          · exact HSu.out k hk
          · exact HS.out k hk
        have HSL := Lib.hid hsl; clear hsl
        have hl2 : (l1 ++ [j]).length + cf (m1.set j true) ≤ 20000 := by have := HCS.out; simp; omega
        have HL2 := Lib.hid hl2; clear hl2
        by_cases h1 : x.kind = 1
        · have hsc : succs P j = [x.a, x.b] := by rw [succs, HX.out]; exact if_pos h1
          have HSC := Lib.hid hsc; clear hsc
          have hfu2 : 2 * cf (m1.set j true) + (succs P j ++ st).length ≤ n := by have := HCS.out; rw [HSC.out]; simp; omega
          have HFu := Lib.hid hfu2; clear hfu2
          have H1 := Lib.hid h1; clear h1
          go_wp2_with (first | (at_builtin; refine wpList_append_lies _ rfl (.tmp 36) (.tmp 38) _ rfl base 3 i0 (.int .i64 0) 1 8 Try.underlying73 hi0 hz0 hz1 hz2 rfl (by decide) v1 l1.length (outVals l1) rfl (HR1.out.lo.alloc _) ⟨w'.heap.size, 0, none⟩ 1 1 [.int .i64 (j : Int)] rfl rfl (World.news_of_block (cs := #[.int .i64 (j : Int)]) (t := 3) (fr := (0, 0)) (blk_newS _ _ _ _)) (by simp [Value.oneCell']) (by omega) (by unfold maxLen; omega) (by omega) (by simp; omega) (w'.heap.size + 1) (by simp) ?_; intro gg6 cap6 w6 hown6 hgrow6 hat6 hlt6; have hR6 := (HR1.out.alloc hb (.cells #[.int .i64 (j : Int)] 3)).pushL hb (new := [j]) hgrow6 hat6 (by simp [World.setCell]) (by simpa [outVals] using hown6); have hs6 := hR6.fr.size; obtain ⟨gp, cp, ci, k0, k1, k2, k3, k4, k5, k6⟩ := hR6.prog.read HX.out; rw [H1.out] at k0; have HR6 := Lib.hid hR6; clear hR6 hown6 hgrow6 hat6) | (at_builtin; refine wpList_append_lies _ rfl (.tmp 51) (.tmp 56) _ rfl base 3 i0 (.int .i64 0) 1 8 Try.underlying73 hi0 hz0 hz1 hz2 rfl (by decide) (.slice (some ⟨wb, 0, none⟩) st.length cap) st.length (outVals st.reverse) rfl (((HR6.out.alloc hb _).alloc hb _).wo) ⟨w6.heap.size + 1, 0, none⟩ 2 2 [.int .i64 (x.b : Int), .int .i64 (x.a : Int)] rfl rfl (World.news_of_block (cs := ([.int .i64 (x.b : Int), .int .i64 (x.a : Int)]).toArray) (t := 3) (fr := (0, 0)) (blk_new2 _ _ _)) (by simp [Value.oneCell']) (by omega) (by unfold maxLen; omega) (by omega) (by simp; omega) (w6.heap.size + 2) (by simp) ?_; intro gg8 cap8 w8 hown8 hgrow8 hat8 hlt8; have hR8 := ((HR6.out.alloc hb _).alloc hb _).pushN hb [x.a, x.b] hgrow8 hat8 (by simp) (by rw [List.length_append, Nat.add_comm]; rfl) (by simp [outVals]) hown8; have HR8 := Lib.hid hR8; clear hR8 hown8 hgrow8 hat8))
          go_step3
          exact ⟨rfl, n, Nat.lt_succ_self n, m1.set j true, l1 ++ [j], succs P j ++ st, _, _, ReachFr.mk _ _ _ _ _ _ _ _ _ _ _ _ _ _ _ _ _ _ _ _ _ _ _ _ _ _ _ _ _ _ _ _ _ _ _ _ _ _ _ _ _ _ _ _ _ _ _ _ _ _ _ _ _ _ _ _ _ _ _ _, by rw [HSC.out]; simpa using HR8.out, by rw [List.length_set]; exact HM1.out, HSL.out, HFu.out, by omega, HL2.out, HT2.out⟩
        · by_cases h2 : x.kind = 2
          · have hsc : succs P j = [x.a] := by rw [succs, HX.out]; show (if x.kind = 1 then _ else _) = _; rw [if_neg h1, if_pos h2]
            have HSC := Lib.hid hsc; clear hsc
            have hfu2 : 2 * cf (m1.set j true) + (succs P j ++ st).length ≤ n := by have := HCS.out; rw [HSC.out]; simp; omega
            have HFu := Lib.hid hfu2; clear hfu2
            have H1 := Lib.hid h2; clear h2 h1
            go_wp2_with (first | (at_builtin; refine wpList_append_lies _ rfl (.tmp 36) (.tmp 38) _ rfl base 3 i0 (.int .i64 0) 1 8 Try.underlying73 hi0 hz0 hz1 hz2 rfl (by decide) v1 l1.length (outVals l1) rfl (HR1.out.lo.alloc _) ⟨w'.heap.size, 0, none⟩ 1 1 [.int .i64 (j : Int)] rfl rfl (World.news_of_block (cs := #[.int .i64 (j : Int)]) (t := 3) (fr := (0, 0)) (blk_newS _ _ _ _)) (by simp [Value.oneCell']) (by omega) (by unfold maxLen; omega) (by omega) (by simp; omega) (w'.heap.size + 1) (by simp) ?_; intro gg6 cap6 w6 hown6 hgrow6 hat6 hlt6; have hR6 := (HR1.out.alloc hb (.cells #[.int .i64 (j : Int)] 3)).pushL hb (new := [j]) hgrow6 hat6 (by simp [World.setCell]) (by simpa [outVals] using hown6); have hs6 := hR6.fr.size; obtain ⟨gp, cp, ci, k0, k1, k2, k3, k4, k5, k6⟩ := hR6.prog.read HX.out; rw [H1.out] at k0; have HR6 := Lib.hid hR6; clear hR6 hown6 hgrow6 hat6) | (at_builtin; refine wpList_append_lies _ rfl (.tmp 60) (.tmp 63) _ rfl base 3 i0 (.int .i64 0) 1 8 Try.underlying73 hi0 hz0 hz1 hz2 rfl (by decide) (.slice (some ⟨wb, 0, none⟩) st.length cap) st.length (outVals st.reverse) rfl (((HR6.out.alloc hb _).alloc hb _).wo) ⟨w6.heap.size + 1, 0, none⟩ 1 1 [.int .i64 (x.a : Int)] rfl rfl (World.news_of_block (cs := ([.int .i64 (x.a : Int)]).toArray) (t := 3) (fr := (0, 0)) (blk_new2 _ _ _)) (by simp [Value.oneCell']) (by omega) (by unfold maxLen; omega) (by omega) (by simp; omega) (w6.heap.size + 2) (by simp) ?_; intro gg8 cap8 w8 hown8 hgrow8 hat8 hlt8; have hR8 := ((HR6.out.alloc hb _).alloc hb _).pushN hb [x.a] hgrow8 hat8 (by simp) (by rw [List.length_append, Nat.add_comm]; rfl) (by simp [outVals]) hown8; have HR8 := Lib.hid hR8; clear hR8 hown8 hgrow8 hat8))
            go_step3
            exact ⟨rfl, n, Nat.lt_succ_self n, m1.set j true, l1 ++ [j], succs P j ++ st, _, _, ReachFr.mk _ _ _ _ _ _ _ _ _ _ _ _ _ _ _ _ _ _ _ _ _ _ _ _ _ _ _ _ _ _ _ _ _ _ _ _ _ _ _ _ _ _ _ _ _ _ _ _ _ _ _ _ _ _ _ _ _ _ _ _, by rw [HSC.out]; simpa using HR8.out, by rw [List.length_set]; exact HM1.out, HSL.out, HFu.out, by omega, HL2.out, HT2.out⟩
          · have hsc : succs P j = [] := by rw [succs, HX.out]; show (if x.kind = 1 then _ else _) = _; rw [if_neg h1, if_neg h2]
            have HSC := Lib.hid hsc; clear hsc
            have hfu2 : 2 * cf (m1.set j true) + (succs P j ++ st).length ≤ n := by have := HCS.out; rw [HSC.out]; simp; omega
            have HFu := Lib.hid hfu2; clear hfu2
            have b1 : ((x.kind : Int) == 1) = false := by rw [beq_eq_false_iff_ne]; omega
            have b2 : ((x.kind : Int) == 2) = false := by rw [beq_eq_false_iff_ne]; omega
            clear h1 h2
            have H1 := Lib.hid (rfl : x.kind = x.kind)
            go_wp2_with (at_builtin; refine wpList_append_lies _ rfl (.tmp 36) (.tmp 38) _ rfl base 3 i0 (.int .i64 0) 1 8 Try.underlying73 hi0 hz0 hz1 hz2 rfl (by decide) v1 l1.length (outVals l1) rfl (HR1.out.lo.alloc _) ⟨w'.heap.size, 0, none⟩ 1 1 [.int .i64 (j : Int)] rfl rfl (World.news_of_block (cs := #[.int .i64 (j : Int)]) (t := 3) (fr := (0, 0)) (blk_newS _ _ _ _)) (by simp [Value.oneCell']) (by omega) (by unfold maxLen; omega) (by omega) (by simp; omega) (w'.heap.size + 1) (by simp) ?_; intro gg6 cap6 w6 hown6 hgrow6 hat6 hlt6; have hR6 := (HR1.out.alloc hb (.cells #[.int .i64 (j : Int)] 3)).pushL hb (new := [j]) hgrow6 hat6 (by simp [World.setCell]) (by simpa [outVals] using hown6); have hs6 := hR6.fr.size; obtain ⟨gp, cp, ci, k0, k1, k2, k3, k4, k5, k6⟩ := hR6.prog.read HX.out; rw [H1.out] at k0; have HR6 := Lib.hid hR6; clear hR6 hown6 hgrow6 hat6)
            go_step3
            exact ⟨rfl, n, Nat.lt_succ_self n, m1.set j true, l1 ++ [j], succs P j ++ st, _, _, ReachFr.mk _ _ _ _ _ _ _ _ _ _ _ _ _ _ _ _ _ _ _ _ _ _ _ _ _ _ _ _ _ _ _ _ _ _ _ _ _ _ _ _ _ _ _ _ _ _ _ _ _ _ _ _ _ _ _ _ _ _ _ _, by rw [HSC.out]; simpa using HR6.out.alloc hb _, by rw [List.length_set]; exact HM1.out, HSL.out, HFu.out, by omega, HL2.out, HT2.out⟩
end Go.Proofs.Ytokcffkffcfolaa.Rg
