/-
  The document's reach.
-/
import Derived.Test.YtokcffkffcfolaaRjI
import Derived.Test.YtokcffkffcfolaaRhM
import Derived.Test.YtokcffkffcfolaaRgN
import Derived.Deep.LoopGhost
namespace Go.Proofs.Ytokcffkffcfolaa.Rh
open Go Go.RowKit Go.Proofs.Ytokcffkffcfolaa.Rg

/-- The program lies in row q. -/
def DP (W : World) (q : Nat) (P : List Inst) : Prop := ∃ cur, W.heap[q]? = some (.cells cur 87 (0, 0)) ∧ cur.toList.take (P.length * 259) = rflat P
theorem DP.of {W : World} {base q N cap : Nat} {P : List Inst} (h : W.ownsRow base 87 259 (.slice (some ⟨q, 0, none⟩) N cap) N (rflat P)) (hN : P.length = N) : DP W q P := by
  rcases h.2 with ⟨h0, _⟩ | ⟨g', cap', cur, hv, hg, hh, hn, hcap, hsz, htk⟩
  · cases h0
  · cases hv
    exact ⟨cur, hh, by rw [hN]; exact htk⟩
section
variable {W W1 : World} {q : Nat} {P : List Inst}
theorem DP.lt (h : DP W q P) : q < W.heap.size := by obtain ⟨cur, h1, _⟩ := h; exact blk_lt h1
theorem DP.keep (h : DP W q P) (hk : W1.heap[q]? = W.heap[q]?) : DP W1 q P := by obtain ⟨cur, h1, h2⟩ := h; exact ⟨cur, hk.trans h1, h2⟩
theorem DP.ne (h : DP W q P) {b : Nat} {cs : Array Value} {t : TypeId} {fr : Nat × Nat} (hb : W.heap[b]? = some (.cells cs t fr)) (ht : t ≠ 87) : q ≠ b := by
  obtain ⟨cur, h1, _⟩ := h; exact blk_ne h1 hb (Ne.symm ht)
theorem DP.cell (h : DP W q P) {i : Nat} {x : Inst} (hx : P[i]? = some x) (j : Nat) (hj : j < 259) : W.cell? ⟨q, i * 259 + j, none⟩ = (rcl x)[j]? := by
  obtain ⟨cur, h1, h2⟩ := h
  obtain ⟨hi, rfl⟩ := List.getElem?_eq_some_iff.1 hx
  rw [blk_cell h1, ← rflat_get _ _ _ hi hj, ← h2, List.getElem?_take, if_pos (by omega)]
  simp
end
/-- What the document's reach holds. -/
structure RD (base bi q : Nat) (P : List Inst) (W0 wr : World) (m : List Bool) (st : List Nat) (vw : Value) : Prop where
  prog : DP wr q P
  inb : wr.heap[bi]? = some (.cells (boolVals m) 4 (0, 0))
  wo : wr.ownsRow base 3 1 vw st.length (outVals st.reverse)
  fr : FrI base bi W0 wr
section
variable {base bi q : Nat} {P : List Inst} {W0 wr w1 : World} {m : List Bool} {l st : List Nat} {vw : Value}
theorem RD.alloc (h : RD base bi q P W0 wr m st vw) (hb : base ≤ W0.heap.size) (o : Obj) : RD base bi q P W0 (wr.alloc o) m st vw :=
  ⟨h.prog.keep (Below.heap_alloc _ _ _ h.prog.lt), blk_alloc h.inb o, h.wo.alloc o, h.fr.alloc hb o⟩
theorem RD.drew (h : RD base bi q P W0 wr m st vw) : RD base bi q P W0 wr.drew m st vw := ⟨h.prog, h.inb, h.wo, h.fr.drew⟩
theorem RD.drewN (h : RD base bi q P W0 wr m st vw) (n : Nat) : RD base bi q P W0 (wr.drewN n) m st vw := ⟨h.prog, h.inb, h.wo, h.fr.drewN n⟩
theorem RD.mark (h : RD base bi q P W0 wr m st vw) (i : Nat) : RD base bi q P W0 (wr.setCell ⟨bi, i, none⟩ (.bool true)) (m.set i true) st vw := by
  refine ⟨h.prog.keep (Below.heap_setCell _ _ _ _ (h.prog.ne h.inb (by decide))), (blk_set h.inb i _).trans ?_, own_set h.wo (fun k hk => ?_) _, h.fr.set (.inl rfl) _⟩
  · congr 2
    simp only [boolVals]
    rw [List.setIfInBounds_toArray, List.map_set]
  · obtain ⟨_, cs, fr, hb⟩ := own_blk h.wo hk
    exact blk_ne hb h.inb (by decide)
theorem RD.marks (h : RD base bi q P W0 wr m st vw) (i : Nat) (hi : i < m.length) : wr.cell? ⟨bi, i, none⟩ = some (.bool (m[i]'hi)) := by
  rw [blk_cell h.inb i]
  simp [boolVals, hi]
theorem RD.pop {i wb cap : Nat} (h : RD base bi q P W0 wr m (i :: st) (.slice (some ⟨wb, 0, none⟩) (st.length + 1) cap)) : RD base bi q P W0 wr m st (.slice (some ⟨wb, 0, none⟩) st.length cap) := by
  have hw := h.wo
  have e : outVals (i :: st).reverse = outVals st.reverse ++ [.int .i64 (i : Int)] := by simp [outVals]
  rw [e] at hw
  exact ⟨h.prog, h.inb, ownsRow_pop (by simp [outVals]) hw, h.fr⟩
theorem RD.top {i wb cap : Nat} (h : RD base bi q P W0 wr m (i :: st) (.slice (some ⟨wb, 0, none⟩) (st.length + 1) cap)) : wr.cell? ⟨wb, st.length, none⟩ = some (.int .i64 (i : Int)) := by
  have hw := h.wo
  have := hw.cellAt st.length (by simp)
  rw [this]
  simp [outVals]
theorem RD.push (h : RD base bi q P W0 wr m st vw) (hb : base ≤ W0.heap.size) {g cap N : Nat} {xs : List Value} (new : List Nat) (hgrow : wr.grownBy w1 vw.ownBlock)
    (hN : N = (new ++ st).length) (hX : xs = outVals (new ++ st).reverse) (hown : w1.ownsRow base 3 1 (.slice (some ⟨g, 0, none⟩) N cap) N xs) :
    RD base bi q P W0 w1 m (new ++ st) (.slice (some ⟨g, 0, none⟩) N cap) := by
  subst hN hX
  have hrow : ∀ k, vw.ownBlock = some k → ∃ cs fr, wr.heap[k]? = some (.cells cs 3 fr) := fun k hk => (own_blk h.wo hk).2
  refine ⟨h.prog.keep (hgrow.block q h.prog.lt fun e => ?_), ?_, hown, h.fr.grown hb hgrow (fun k hk => (own_blk h.wo hk).1)⟩
  · obtain ⟨cs, fr, hb'⟩ := hrow q e.symm
    exact h.prog.ne hb' (by decide) rfl
  · rw [hgrow.block bi (blk_lt h.inb) (fun e => by
      obtain ⟨cs, fr, hb'⟩ := hrow bi e.symm
      exact blk_ne h.inb hb' (by decide) rfl)]
    exact h.inb
end
def RDPost (base bi q : Nat) (P : List Inst) (W0 : World) (m : List Bool) (e : Ending) (W' : World) : Prop :=
  e = .returned (.tuple #[]) ∧ DP W' q P ∧ W'.heap[bi]? = some (.cells (boolVals m) 4 (0, 0)) ∧ FrI base bi W0 W'

set_option maxRecDepth 100000 in
set_option maxHeartbeats 4000000 in
theorem rreach_calls (bi q : Nat) (P : List Inst) (hP : WF P) (hPl : P.length ≤ 20000) (capP : Nat) (W : World) (m : List Bool) (i : Nat) (hpr : DP W q P) (hbi : W.heap[bi]? = some (.cells (boolVals m) 4 (0, 0)))
    (hml : m.length = P.length) (hi : i < P.length) (capM : Nat) :
    Calls Try.prog 38 #[.slice (some ⟨q, 0, none⟩) P.length capP, .slice (some ⟨bi, 0, none⟩) P.length capM, .int .i64 i] W
      (RDPost W.heap.size bi q P W (reachG P (2 * cf m + 1) m [i])) := by
  obtain ⟨i0, hi0, hz0, hz1, hz2⟩ := info_parts infoInt
  have hcm : cf m ≤ P.length := by rw [← hml]; exact List.count_le_length
  have hws : (W.alloc (.cells #[.int .i64 (i : Int)] 3)).ownsRow W.heap.size 3 1 (.slice (some ⟨W.heap.size, 0, none⟩) 1 1) 1 (outVals [i].reverse) :=
    World.ownsRow_lit W #[.int .i64 (i : Int)] 1 (Nat.le_refl _) (by unfold maxLen; omega) rfl
  have hrs : RD W.heap.size bi q P W (W.alloc (.cells #[.int .i64 (i : Int)] 3)) m [i] (.slice (some ⟨W.heap.size, 0, none⟩) 1 1) :=
    ⟨hpr.keep (Below.heap_alloc _ _ _ hpr.lt), blk_alloc hbi _, hws, (FrI.refl _ _ _).alloc (Nat.le_refl _) _⟩
  have HRS := Lib.hid hrs; clear hrs hws hpr hbi
  have HP := Lib.hid hP; clear hP
  have HML := Lib.hid hml; clear hml
  go_enter Try.func38, Try.ntmps38
  go_wp2_with fail
  go_loopg [6] (2 * cf m + 1) (fun n vw wr => ∃ (m1 : List Bool) (st : List Nat) (v : Value), v = vw ∧ RD W.heap.size bi q P W wr m1 st v ∧
    m1.length = P.length ∧ (∀ j ∈ st, j < P.length) ∧ 2 * cf m1 + st.length ≤ n ∧ n ≤ 50000 ∧ reachG P n m1 st = reachG P (2 * cf m + 1) m [i])
  case atStart => exact ⟨m, [i], _, rfl, HRS.out, HML.out, by simpa using hi, by simp, by omega, rfl⟩
  case round =>
    obtain ⟨m1, st, vw, rfl, hR, hm1, hst, hfu, hn5, hT⟩ := hrel
    have HT := Lib.hid hT; clear hT
    cases st with
    | nil =>
      have hTr : reachG P gk m1 [] = m1 := by cases gk <;> rfl
      have hw := hR.wo
      obtain ⟨ao, cap, rfl⟩ := own_any hw
      have HR := Lib.hid hR; clear hR hw
      have HTr := Lib.hid hTr; clear hTr
      have HS := Lib.hid hst; clear hst
      go_wp2
      go_end0
      refine ⟨rfl, HR.out.prog, ?_, HR.out.fr⟩
      rw [← HT.out, HTr.out]; exact HR.out.inb
    | cons j st =>
      have hjP : j < P.length := hst j (by simp)
      have hst' : ∀ k ∈ st, k < P.length := fun k hk => hst k (by simp [hk])
      obtain ⟨wb, cap, rfl, hwb, hwl⟩ := hR.wo.form (by simp)
      rw [List.length_cons] at hR hfu
      obtain ⟨n, rfl⟩ : ∃ k, gk = k + 1 := ⟨gk - 1, by omega⟩
      have htop := hR.top
      obtain ⟨hcap1, hcap2⟩ := own_cap hR.wo
      have hjm : j < m1.length := by omega
      have hmk := hR.marks j hjm
      have hfz : wr.frozen? ⟨bi, j, none⟩ = false := blk_frozen hR.inb j
      have hpop := hR.pop
      obtain ⟨b, hb'⟩ : ∃ b, b = m1[j] := ⟨_, rfl⟩
      rw [← hb'] at hmk
      have HS := Lib.hid hst'; clear hst hst'
      have HR := Lib.hid hpop; clear hpop hR
      have HB := Lib.hid hb'; clear hb'
      have hjl : (j : Int) < (P.length : Int) := by omega
      have HM1 := Lib.hid hm1; clear hm1
      have hst_l : st.length ≤ 50000 := by omega
      cases b with
      | true =>
        have hT2 : reachG P n m1 st = reachG P (2 * cf m + 1) m [i] := by
          rw [← HT.out, reachG, if_pos]
          simp [List.getD, List.getElem?_eq_getElem hjm, ← HB.out]
        have HT2 := Lib.hid hT2; clear hT2
        go_wp2_with fail
        go_roundg n
        case rel => exact ⟨m1, st, _, rfl, HR.out, HM1.out, HS.out, by omega, by omega, HT2.out⟩
        case measure => omega
      | false =>
        have hbj : m1[j]? = some false := by rw [List.getElem?_eq_getElem hjm, ← HB.out]
        have hcs := cf_set m1 j hbj
        have hT2 : reachG P n (m1.set j true) ((succs P j).reverse ++ st) = reachG P (2 * cf m + 1) m [i] := by
          rw [← HT.out, reachG, if_neg]
          simp [List.getD, hbj]
        have hsu := succs_lt HP.out j
        have hR1 := HR.out.mark j
        have HT2 := Lib.hid hT2; clear hT2 hbj
        have HSu := Lib.hid hsu; clear hsu
        have HR1 := Lib.hid hR1; clear hR1
        have hxj : P[j]? = some (P[j]'hjP) := List.getElem?_eq_getElem hjP
        obtain ⟨x, hx⟩ : ∃ x, x = P[j]'hjP := ⟨_, rfl⟩
        rw [← hx] at hxj
        have hxk := HR.out.prog.cell hxj 0 (by decide)
        have hxa := HR.out.prog.cell hxj 257 (by decide)
        have hxb := HR.out.prog.cell hxj 258 (by decide)
        rw [rcl_kind, Nat.add_zero] at hxk
        rw [rcl_a] at hxa
        rw [rcl_b] at hxb
        have hqb := HR.out.prog.ne HR.out.inb (by decide)
        have HX := Lib.hid hxj; clear hxj hx
        have HCS := Lib.hid hcs; clear hcs
        have hsl : ∀ k ∈ (succs P j).reverse ++ st, k < P.length := fun k hk => by
          rcases List.mem_append.1 hk with hk | hk
          · exact HSu.out k (List.mem_reverse.1 hk)
          · exact HS.out k hk
        have HSL := Lib.hid hsl; clear hsl
        by_cases h1 : x.kind = 1
        · have hsc : (succs P j).reverse = [x.b, x.a] := by rw [succs, HX.out]; show (if x.kind = 1 then _ else _ : List Nat).reverse = _; rw [if_pos h1]; rfl
          have HSC := Lib.hid hsc; clear hsc
          have hfu2 : 2 * cf (m1.set j true) + ((succs P j).reverse ++ st).length ≤ n := by have := HCS.out; rw [HSC.out]; simp; omega
          have HFu := Lib.hid hfu2; clear hfu2
          rw [h1] at hxk
          have H1 := Lib.hid h1; clear h1
          have hl2 : ((succs P j).reverse ++ st) = [x.b, x.a] ++ st := by rw [HSC.out]
          have HL2 := Lib.hid hl2; clear hl2
          go_wp2_with fail
          have HR1 := Lib.hid HR1.out.drew
          have hsz := HR.out.fr.size
          go_region_law (refine step_append_lies _ rfl (.tmp 38) (.tmp 49) 73 rfl W.heap.size 3 i0 (.int .i64 0) 1 8 Try.underlying73 hi0 hz0 hz1 hz2 rfl (by decide) (.slice (some ⟨wb, 0, none⟩) st.length cap) st.length (outVals st.reverse) (by simp [Act.eval]) ((HR1.out.alloc (Nat.le_refl _) _).wo) ⟨(wr.setCell ⟨bi, j, none⟩ (.bool true)).heap.size, 0, none⟩ 2 2 [.int .i64 (x.a : Int), .int .i64 (x.b : Int)] (by simp [Act.eval, World.setCell]) rfl (World.news_of_block (cs := #[.int .i64 (x.a : Int), .int .i64 (x.b : Int)]) (t := 3) (fr := (0, 0)) (blk_new _ _)) (by simp [Value.oneCell']) (by omega) (by unfold maxLen; omega) (by omega) (by simp [World.setCell]; omega) (wr.heap.size + 1) (by simp [World.setCell]) ?_; intro gg8 cap8 w8 hown8 hgrow8 hat8 hlt8)
          all_goals
            have hR8 := (HR1.out.alloc (Nat.le_refl _) _).push (Nat.le_refl _) [x.b, x.a] hgrow8 (by rw [List.length_append, Nat.add_comm]; rfl) (by simp [outVals]) hown8
            have HR8 := Lib.hid hR8; clear hR8 hown8 hgrow8 hat8
            go_wp2_with fail
            go_roundg n
            case rel => exact ⟨m1.set j true, [x.b, x.a] ++ st, _, rfl, by simpa using HR8.out, by rw [List.length_set]; exact HM1.out, by rw [← HL2.out]; exact HSL.out, by rw [← HL2.out]; exact HFu.out, by omega, by rw [← HL2.out]; exact HT2.out⟩
            case measure => omega
        · by_cases h2 : x.kind = 2
          · have hsc : (succs P j).reverse = [x.a] := by rw [succs, HX.out]; show (if x.kind = 1 then _ else _ : List Nat).reverse = _; rw [if_neg h1, if_pos h2]; rfl
            have HSC := Lib.hid hsc; clear hsc
            have hfu2 : 2 * cf (m1.set j true) + ((succs P j).reverse ++ st).length ≤ n := by have := HCS.out; rw [HSC.out]; simp; omega
            have HFu := Lib.hid hfu2; clear hfu2
            rw [h2] at hxk
            have H1 := Lib.hid h1; clear h1
            have H2 := Lib.hid h2; clear h2
            have hl2 : ((succs P j).reverse ++ st) = [x.a] ++ st := by rw [HSC.out]
            have HL2 := Lib.hid hl2; clear hl2
            go_wp2_with (at_builtin; refine wpList_append_lies _ rfl (.tmp 53) (.tmp 59) _ rfl W.heap.size 3 i0 (.int .i64 0) 1 8 Try.underlying73 hi0 hz0 hz1 hz2 rfl (by decide) (.slice (some ⟨wb, 0, none⟩) st.length cap) st.length (outVals st.reverse) rfl ((HR1.out.alloc (Nat.le_refl _) _).wo) ⟨wr.heap.size, 0, none⟩ 1 1 [.int .i64 (x.a : Int)] rfl rfl (World.news_of_block (cs := ([.int .i64 (x.a : Int)]).toArray) (t := 3) (fr := (0, 0)) (blk_newS _ _ _ _)) (by simp [Value.oneCell']) (by omega) (by unfold maxLen; omega) (by omega) (by have := HR.out.fr.size; simp; omega) (wr.heap.size + 1) (by simp) ?_; intro gg8 cap8 w8 hown8 hgrow8 hat8 hlt8; have hR8 := (HR1.out.alloc (Nat.le_refl _) _).push (Nat.le_refl _) [x.a] hgrow8 (by rw [List.length_append, Nat.add_comm]; rfl) (by simp [outVals]) hown8; have HR8 := Lib.hid hR8; clear hR8 hown8 hgrow8 hat8)
            go_roundg n
            case rel => exact ⟨m1.set j true, [x.a] ++ st, _, rfl, by simpa using HR8.out, by rw [List.length_set]; exact HM1.out, by rw [← HL2.out]; exact HSL.out, by rw [← HL2.out]; exact HFu.out, by omega, by rw [← HL2.out]; exact HT2.out⟩
            case measure => omega
          · have hsc : (succs P j).reverse = [] := by rw [succs, HX.out]; show (if x.kind = 1 then _ else _ : List Nat).reverse = _; rw [if_neg h1, if_neg h2]; rfl
            have HSC := Lib.hid hsc; clear hsc
            have hfu2 : 2 * cf (m1.set j true) + ((succs P j).reverse ++ st).length ≤ n := by have := HCS.out; rw [HSC.out]; simp; omega
            have HFu := Lib.hid hfu2; clear hfu2
            have b1 : ((x.kind : Int) + 1 == 2) = false := by rw [beq_eq_false_iff_ne]; omega
            have b2 : ((x.kind : Int) + 1 == 3) = false := by rw [beq_eq_false_iff_ne]; omega
            clear h1 h2
            go_wp2_with fail
            go_roundg n
            case rel => exact ⟨m1.set j true, st, _, rfl, HR1.out, by rw [List.length_set]; exact HM1.out, HS.out, by have := HFu.out; rw [HSC.out] at this; exact this, by omega, by have := HT2.out; rw [HSC.out] at this; exact this⟩
            case measure => omega
end Go.Proofs.Ytokcffkffcfolaa.Rh
