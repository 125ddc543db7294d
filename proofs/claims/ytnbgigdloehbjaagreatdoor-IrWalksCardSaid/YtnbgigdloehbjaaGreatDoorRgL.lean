/-
  The reader's method alternatives.
-/
import Derived.Test.YtnbgigdloehbjaaGreatDoorRgK
namespace Go.Proofs.YtnbgigdloehbjaaGreatDoor.Rg
open Go Go.RowKit

section
variable {B : Nat} {W W1 W2 : World} {g : Nat} {r : Rd} {v : Value}
theorem own_fr {base e size : Nat} {u : Value} {n : Nat} {xs : List Value} (h : W1.ownsRow base e size u n xs) (hF : Fr B W1 W2) (h1 : e ≠ 139) (h2 : e ≠ 145) : W2.ownsRow base e size u n xs := by
  refine ⟨h.1, ?_⟩
  rcases h.2 with hn | ⟨q, cap, cur, rfl, hb, hg, rest⟩
  · exact .inl hn
  · exact .inr ⟨q, cap, cur, rfl, hb, hF.blk hg h1 h2, rest⟩
theorem Fr.farGrown (h : Fr B W W1) (hB : B ≤ W.heap.size) {row : Option Nat} (hg : W1.grownBy W2 row) (hr : ∀ k, row = some k → W.heap.size ≤ k) : Fr B W W2 :=
  ⟨h.below.grown hg (Nat.le_trans hB h.below.size) (fun k hk => Nat.le_trans hB (hr k hk)), fun k o' ho h1 h2 => by
    have hk := h.keep k o' ho h1 h2
    rw [hg.block k (Array.getElem?_eq_some_iff.1 hk).1 (fun e => by
      have := hr k e.symm
      have := (Array.getElem?_eq_some_iff.1 ho).1
      omega)]
    exact hk⟩
theorem Is.grownFar (h : Is B W1 g r v) {row : Option Nat} (hg : W1.grownBy W2 row) {e : Nat} (hr : ∀ k, row = some k → ∃ cs fr, W1.heap[k]? = some (.cells cs e fr)) (h1 : e ≠ 139) (h2 : e ≠ 145) : Is B W2 g r v := by
  refine ⟨?_, h.ge, ?_, h.sz⟩
  · rw [hg.block g h.lt (fun e' => by
      obtain ⟨cs, fr, hb⟩ := hr g e'.symm
      exact blk_ne h.blk hb (Ne.symm h1) rfl)]
    exact h.blk
  · refine h.own.kept hg ?_
    cases hv : v.ownBlock with
    | none => exact .inl rfl
    | some k =>
      refine .inr (fun e' => ?_)
      obtain ⟨cs, fr, hb⟩ := hr k e'.symm
      obtain ⟨_, cs', fr', hb'⟩ := own_blk h.own hv
      exact blk_ne hb' hb (Ne.symm h2) rfl
theorem Is.setTo {gg cap n : Nat} (h : Is B W g r (.slice (some ⟨gg, 0, none⟩) n cap)) (hn : n = r.l.length) (i : Nat) (hi : i < r.l.length) (a : Nat) :
    Is B (W.setCell ⟨gg, i * 7 + 5, none⟩ (.int .i64 a)) g { r with l := r.l.modify i fun x => { x with a := a } } (.slice (some ⟨gg, 0, none⟩) n cap) := by
  have h1 := h.setInst hn i 5 hi (by omega) (.int .i64 a) { (r.l[i]'hi) with a := a } rfl
  have e : r.l.set i { (r.l[i]'hi) with a := a } = r.l.modify i fun x => { x with a := a } := by
    apply List.ext_getElem?
    intro j
    rw [List.getElem?_set, List.getElem?_modify]
    by_cases e : i = j
    · subst e; simp [hi]
    · simp [e]
  rw [e] at h1; exact h1
end
theorem fuel_less {a b : Rd} (hs : b.s = a.s) (h : a.at_ < b.at_) (ht : a.at_ ≤ a.s.size) {n : Nat} (hf : a.fuel ≤ n + 1) : b.fuel ≤ n := by
  unfold Rd.fuel at *
  rw [hs]; omega
theorem setA_snoc (v p : Nat) : ∀ (o : List Nat) (l : List Inst), Rd.setA l v (o ++ [p]) = (Rd.setA l v o).modify p fun x => { x with a := v }
  | [], l => rfl
  | q :: o, l => by simp only [List.cons_append, Rd.setA]; exact setA_snoc v p o _
def outVals (o : List Nat) : List Value := o.map fun p => .int .i64 ((p : Nat) : Int)
theorem infoInt : (Tryz.prog.info? 3).map (fun i => (i.zero, i.size, i.bytes)) = some (some (.int .i64 0), 1, 8) := by kernel_rfl

set_option maxRecDepth 100000 in
set_option maxHeartbeats 1600000 in
theorem alts_of (k : Nat) (hP : PiecesC k) : AltsC k := by
  intro B W g r v hI hB hG _ hd
  obtain ⟨i0, hi0, hz0, hz1, hz2⟩ := info_parts infoInt
  have HP := Lib.hid hP; clear hP
  have HI := Lib.hid hI; clear hI
  have HG := Lib.hid hG; clear hG
  have HD := Lib.hid hd; clear hd
  go_enter Tryz.func101, Tryz.ntmps101
  go_wp2_with fail
  go_loopg [2] r.fuel (fun n vo wr => ∃ r1 v1 o, Is B wr g r1 v1 ∧ Fr B W wr ∧ Nxt r r1 ∧ r1.fuel ≤ n ∧ Rd.altsR (Rd.group k) n r1 = Rd.altsR (Rd.group k) r.fuel r ∧ Rd.altsO (Rd.group k) n r1 o = Rd.altsO (Rd.group k) r.fuel r [] ∧
    wr.ownsRow W.heap.size 3 1 vo o.length (outVals o) ∧ (∀ p ∈ o, p < r1.l.length) ∧ o.length ≤ r1.l.length)
  case atStart => exact ⟨r, v, [], HI.out, Fr.refl _ _, Nxt.refl _, Nat.le_refl _, rfl, rfl, World.ownsRow_nil _ _ _ _, by simp, by simp⟩
  case round =>
    obtain ⟨r1, v1, o, hI1, hF1, hN1, hfu, hR, hO, hown, hlo, hol⟩ := hrel
    have hG1 := hN1.good HG.out
    obtain ⟨n, rfl⟩ : ∃ n, gk = n + 1 := ⟨gk - 1, by have := r1.fuel_pos hG1.top; omega⟩
    simp only [Rd.altsR, Rd.altsO] at hR hO
    have hN2 := Rd.pieces_nxt (Rd.group k) (Rd.group_nxt k) r1.fuel r1
    have hG2 := hN2.good hG1
    have hdp : r1.deep + k = 40 := by rw [hN1.deep]; exact HD.out
    obtain ⟨ao, cap, rfl⟩ := hI1.anyForm
    have c3 := hI1.c3
    have hB1 := Nat.le_trans hB hF1.below.size
    have HI1 := Lib.hid hI1; clear hI1
    have HF1 := Lib.hid hF1; clear hF1
    have HN1 := Lib.hid hN1; clear hN1
    have HR := Lib.hid hR; clear hR
    have HO := Lib.hid hO; clear hO
    have HOwn := Lib.hid hown; clear hown
    have HN2 := Lib.hid hN2; clear hN2
    have HG1 := Lib.hid hG1; clear hG1
    have HG2 := Lib.hid hG2; clear hG2
    have HDP := Lib.hid hdp; clear hdp
    have HB1 := Lib.hid hB1; clear hB1
    have HLo := Lib.hid hlo; clear hlo
    go_wp2_with fail
    refine (HP.out B _ g r1 _ HI1.out HB1.out HG1.out (by simp) HDP.out).mono ?_
    rintro q W2 ⟨rfl, ⟨v2, hI2⟩, hF2⟩
    have HI2 := Lib.hid hI2; clear hI2
    have HF2 := Lib.hid (HF1.out.trans hF2)
    have HOwn2 := Lib.hid (own_fr HOwn.out hF2 (by decide) (by decide)); clear hF2 c3
    go_wp2_with fail
    refine (is_calls 124 HI2.out).mono ?_
    rintro q W3 ⟨rfl, hI3, hF3⟩
    have HI3 := Lib.hid hI3; clear hI3
    have HF3 := Lib.hid (HF2.out.trans hF3)
    have HOwn3 := Lib.hid (own_fr HOwn2.out hF3 (by decide) (by decide)); clear hF3
    by_cases hb : (Rd.pieces (Rd.group k) r1.fuel r1).isB 124 = true
    · have hx := Rd.isR_ext (Rd.pieces (Rd.group k) r1.fuel r1) 124
      have hlx : ((Rd.pieces (Rd.group k) r1.fuel r1).isR 124).l.length = (Rd.pieces (Rd.group k) r1.fuel r1).l.length := by rw [hx.l]
      have hsx : Small ((Rd.pieces (Rd.group k) r1.fuel r1).isR 124).l := by rw [hx.l]; exact HG2.out.small
      have hmo := HN2.out.mono
      have hsh := HG2.out.short
      have hl4 := Rd.shift_length ((Rd.pieces (Rd.group k) r1.fuel r1).isR 124) r1.l.length (by rw [hlx]; exact hmo)
      have hB3 := Nat.le_trans hB HF3.out.below.size
      have HB3 := Lib.hid hB3; clear hB3
      have HSx := Lib.hid hsx; clear hsx hx
      have Hlx := Lib.hid hlx; clear hlx
      have HB := Lib.hid hb; clear hb
      rw [HB.out]
      have HL4 := Lib.hid hl4; clear hl4
      go_wp2_with fail
      refine (shift_calls r1.l.length HI3.out HB3.out (by rw [Hlx.out]; omega) (by rw [Hlx.out]; exact hmo) (fun x hx => by have := HSx.out x hx; omega)).mono ?_
      rintro q W4 ⟨rfl, ⟨v4, hI4⟩, hF4⟩
      have HI4 := Lib.hid hI4; clear hI4
      have HF4 := Lib.hid (HF3.out.trans hF4)
      have HOwn4 := Lib.hid (own_fr HOwn3.out hF4 (by decide) (by decide)); clear hF4
      have hB4 := Nat.le_trans hB HF4.out.below.size
      have HB4 := Lib.hid hB4; clear hB4
      go_wp2_with fail
      refine (put_calls ⟨2, .zero, 0, 0⟩ HI4.out HB4.out (by rw [HL4.out, Hlx.out]; omega)).mono ?_
      rintro q W5 ⟨rfl, ⟨v5, hI5⟩, hF5⟩
      have HI5 := Lib.hid hI5; clear hI5
      have HF5 := Lib.hid (HF4.out.trans hF5)
      have HOwn5 := Lib.hid (own_fr HOwn4.out hF5 (by decide) (by decide)); clear hF5
      rw [HL4.out, Hlx.out]
      have hB5 := HF5.out.below.size
      go_wp2_with ((at_builtin; refine wpList_append_lies _ rfl _ _ _ rfl W.heap.size 3 i0 (.int .i64 0) 1 8 Tryz.underlying76 hi0 hz0 hz1 hz2 rfl (by decide) _ o.length (outVals o) rfl (HOwn5.out.alloc _) ⟨W5.heap.size, 0, none⟩ 1 1 [.int .i64 (((Rd.pieces (Rd.group k) r1.fuel r1).l.length + 1 : Nat) : Int)] rfl rfl (World.news_of_block (cs := #[.int .i64 (((Rd.pieces (Rd.group k) r1.fuel r1).l.length + 1 : Nat) : Int)]) (t := 3) (fr := (0, 0)) (blk_new _ _)) (by simp [Value.oneCell']) (by omega) (by unfold maxLen; omega) (by omega) (by simp; omega) (W5.heap.size + 1) (by simp) ?_; intro gg6 cap6 w6 hown6 hgrow6 hat6 hlt6; have tok := trivial))
      have hI6 := ((HI5.out.alloc (.cells #[.int .i64 (((Rd.pieces (Rd.group k) r1.fuel r1).l.length + 1 : Nat) : Int)] 3)).grownFar hgrow6 (e := 3) (fun k hk => (own_blk (HOwn5.out.alloc _) hk).2) (by decide) (by decide))
      have hF6 := (HF5.out.alloc hB (.cells #[.int .i64 (((Rd.pieces (Rd.group k) r1.fuel r1).l.length + 1 : Nat) : Int)] 3)).farGrown hB hgrow6 (fun k hk => (own_blk HOwn5.out hk).1)
      have hl6 : ((((Rd.pieces (Rd.group k) r1.fuel r1).isR 124).shift r1.l.length).put ⟨2, .zero, 0, 0⟩).l.length = (Rd.pieces (Rd.group k) r1.fuel r1).l.length + 2 := by simp [Rd.put, HL4.out, Hlx.out]
      obtain ⟨gl, capl, rfl, hgl, hnl⟩ := hI6.form (by omega)
      rw [hl6] at hI6
      have c3 := hI6.c3
      obtain ⟨⟨w0, w1, w2, w3, w4, w5, w6', k0, k1, k2, k3, k4, k5, k6⟩, f0, f1, f2, f3, f4, f5, f6⟩ := hI6.room hl6.symm r1.l.length (by omega)
      have hal := Rd.altOnce_nxt (Rd.pieces (Rd.group k) r1.fuel r1) r1.l.length HB.out hmo
      have hae : (Rd.pieces (Rd.group k) r1.fuel r1).altOnce r1.l.length = ((((Rd.pieces (Rd.group k) r1.fuel r1).isR 124).shift r1.l.length).put ⟨2, .zero, 0, 0⟩).setAt r1.l.length ⟨1, .zero, r1.l.length + 1, (Rd.pieces (Rd.group k) r1.fuel r1).l.length + 2⟩ := by rw [← hl6]; rfl
      have hfl : ((Rd.pieces (Rd.group k) r1.fuel r1).altOnce r1.l.length).fuel ≤ n := by
        have e1 := Rd.isR_at _ HB.out
        have e2 : ((Rd.pieces (Rd.group k) r1.fuel r1).altOnce r1.l.length).at_ = ((Rd.pieces (Rd.group k) r1.fuel r1).isR 124).at_ := rfl
        have e4 := HN2.out.le
        exact fuel_less (HN2.out.trans hal).s (by rw [e2, e1]; omega) HG1.out.top hfu
      have hR2 : Rd.altsR (Rd.group k) n ((Rd.pieces (Rd.group k) r1.fuel r1).altOnce r1.l.length) = Rd.altsR (Rd.group k) r.fuel r := by rw [← HR.out, if_pos HB.out]
      have hO2 : Rd.altsO (Rd.group k) n ((Rd.pieces (Rd.group k) r1.fuel r1).altOnce r1.l.length) (o ++ [(Rd.pieces (Rd.group k) r1.fuel r1).l.length + 1]) = Rd.altsO (Rd.group k) r.fuel r [] := by
        rw [← HO.out, if_pos HB.out, Rd.shift_length _ _ hmo]
      have hlen : ((Rd.pieces (Rd.group k) r1.fuel r1).altOnce r1.l.length).l.length = (Rd.pieces (Rd.group k) r1.fuel r1).l.length + 2 := by rw [hae]; simp [Rd.setAt, hl6]
      have HI6 := Lib.hid hI6; clear hI6
      have HF6 := Lib.hid hF6; clear hF6
      have HL6 := Lib.hid hl6; clear hl6
      have HAL := Lib.hid hal; clear hal
      have HAE := Lib.hid hae; clear hae
      have HFl := Lib.hid hfl; clear hfl
      have HR2 := Lib.hid hR2; clear hR2
      have HO2 := Lib.hid hO2; clear hO2
      have HLen := Lib.hid hlen; clear hlen
      have HOwn6 := Lib.hid hown6; clear hown6
      clear hgrow6 hat6 hlt6 tok
      refine QT.wp_region_qtail 14 (by kernel_rfl) (by kernel_rfl) (by kernel_rfl) ?_
      simp only [List.take_succ_cons, List.take_zero, List.drop_succ_cons, List.drop_zero]
      repeat (go_big_quiet_step (fail))
      refine wpQuiet_nil ?_
      go_wp2
      go_roundg n
      case measure => omega
      case rel =>
        have hI7 := (HI6.out.put7 HL6.out.symm r1.l.length (by rw [HL6.out]; omega) ⟨1, .zero, r1.l.length + 1, (Rd.pieces (Rd.group k) r1.fuel r1).l.length + 2⟩).drew
        rw [← HAE.out] at hI7
        have hF7 := (HI6.out.frPut7 HF6.out r1.l.length ⟨1, .zero, r1.l.length + 1, (Rd.pieces (Rd.group k) r1.fuel r1).l.length + 2⟩).drew
        have hown7 := own_fr HOwn6.out ((HI6.out.frPut7 (Fr.refl B w6) r1.l.length ⟨1, .zero, r1.l.length + 1, (Rd.pieces (Rd.group k) r1.fuel r1).l.length + 2⟩).drew) (by decide) (by decide)
        refine ⟨_, _, o ++ [(Rd.pieces (Rd.group k) r1.fuel r1).l.length + 1], hI7, hF7, (HN1.out.trans HN2.out).trans HAL.out, HFl.out, HR2.out, HO2.out, ?_, ?_, ?_⟩
        · have e : outVals (o ++ [(Rd.pieces (Rd.group k) r1.fuel r1).l.length + 1]) = outVals o ++ [.int .i64 (((Rd.pieces (Rd.group k) r1.fuel r1).l.length + 1 : Nat) : Int)] := by simp [outVals]
          rw [e, List.length_append, List.length_singleton]
          exact hown7
        · intro p hp
          rw [HLen.out]
          rcases List.mem_append.1 hp with hp | hp
          · have := HLo.out p hp; omega
          · simp at hp; omega
        · rw [HLen.out, List.length_append, List.length_singleton]; omega
    · have hb' : (Rd.pieces (Rd.group k) r1.fuel r1).isB 124 = false := by simpa using hb
      have hr : (Rd.pieces (Rd.group k) r1.fuel r1).isR 124 = Rd.altsR (Rd.group k) r.fuel r := by rw [← HR.out, if_neg hb]; exact if_neg hb
      have ho : o = Rd.altsO (Rd.group k) r.fuel r [] := by rw [← HO.out, if_neg hb]
      rw [hb']
      have hI3 := HI3.out
      rw [hr] at hI3
      have hml : (Rd.altsR (Rd.group k) r.fuel r).l.length = (Rd.pieces (Rd.group k) r1.fuel r1).l.length := by rw [← hr, (Rd.isR_ext _ 124).l]
      have hmo := HN2.out.mono
      have hsh := HG2.out.short
      have HML := Lib.hid hml; clear hml
      have HOe := Lib.hid ho; clear ho
      have HI4 := Lib.hid hI3; clear hI3 hb hb' hr
      have hfin : Rd.alts (Rd.group k) r = { Rd.altsR (Rd.group k) r.fuel r with l := Rd.setA (Rd.altsR (Rd.group k) r.fuel r).l (Rd.altsR (Rd.group k) r.fuel r).l.length (o.take o.length) } := by rw [List.take_length, HOe.out]; rfl
      have HFin := Lib.hid hfin; clear hfin
      by_cases ho0 : o.length = 0
      · obtain ⟨ao2, cap2, rfl⟩ := own_any HOwn3.out
        have HO0 := Lib.hid ho0; clear ho0
        rw [HO0.out]
        go_wp2_with fail
        go_loopg [41] 0 (fun n i wr => i = .int .i64 0 ∧ wr = W3)
        case atStart => exact ⟨rfl, rfl⟩
        case round =>
          obtain ⟨rfl, rfl⟩ := hrel
          go_wp2
          go_end0
          refine ⟨rfl, ⟨v2, ?_⟩, HF3.out⟩
          rw [HFin.out, HO0.out]
          exact HI4.out
      · obtain ⟨ob, cap2, rfl, hob, hobl⟩ := HOwn3.out.form (by omega)
        have hI5 := HI4.out
        obtain ⟨gl, capl, rfl, hgl, hnl⟩ := hI5.form (by rw [HML.out]; omega)
        rw [HML.out] at hI5
        have HI5 := Lib.hid hI5; clear hI5
        go_wp2_with fail
        go_loopw [41] (fun i wr => ∃ j : Nat, j ≤ o.length ∧ i = .int .i64 (j : Int) ∧ Is B wr g { Rd.altsR (Rd.group k) r.fuel r with l := Rd.setA (Rd.altsR (Rd.group k) r.fuel r).l (Rd.altsR (Rd.group k) r.fuel r).l.length (o.take j) } (.slice (some ⟨gl, 0, none⟩) (Rd.pieces (Rd.group k) r1.fuel r1).l.length capl) ∧ Fr B W wr ∧ wr.ownsRow W.heap.size 3 1 (.slice (some ⟨ob, 0, none⟩) o.length cap2) o.length (outVals o)) (fun i _ => o.length - (intOf i).toNat)
        case atStart => exact ⟨0, Nat.zero_le _, rfl, HI5.out, HF3.out, HOwn3.out⟩
        case round =>
          obtain ⟨j, hj, rfl, hI6, hF6, hown6⟩ := hrel
          have c3 := hI6.c3
          by_cases hjn : j < o.length
          · have co : wr.cell? ⟨ob, j, none⟩ = some (.int .i64 ((o[j] : Nat) : Int)) := by
              rw [hown6.cellAt j (by omega)]
              simp [outVals, List.getElem?_map, List.getElem?_eq_getElem hjn]
            have hpj := HLo.out _ (List.getElem_mem hjn)
            obtain ⟨p, hp⟩ : ∃ p, p = o[j] := ⟨_, rfl⟩
            rw [← hp] at co hpj
            have hln : (Rd.setA (Rd.altsR (Rd.group k) r.fuel r).l (Rd.altsR (Rd.group k) r.fuel r).l.length (o.take j)).length = (Rd.pieces (Rd.group k) r1.fuel r1).l.length := by rw [Rd.setA_length, HML.out]
            obtain ⟨ua, ca⟩ : ∃ ua, wr.cell? ⟨gl, p * 7 + 5, none⟩ = some ua := ⟨_, hI6.inst hln.symm p 5 (by show p < (Rd.setA _ _ _).length; rw [hln]; omega) (by omega)⟩
            have fa := hI6.instFz hln.symm (p * 7 + 5)
            have hI7 := hI6.setTo hln.symm p (by show p < (Rd.setA _ _ _).length; rw [hln]; omega) (Rd.pieces (Rd.group k) r1.fuel r1).l.length
            have hF7 := hI6.frInst hF6 (p * 7 + 5) (.int .i64 ((Rd.pieces (Rd.group k) r1.fuel r1).l.length : Nat))
            have hown7 := own_fr hown6 (hI6.frInst (Fr.refl B wr) (p * 7 + 5) (.int .i64 ((Rd.pieces (Rd.group k) r1.fuel r1).l.length : Nat))) (by decide) (by decide)
            have hst : Rd.setA (Rd.altsR (Rd.group k) r.fuel r).l (Rd.altsR (Rd.group k) r.fuel r).l.length (o.take (j + 1)) = (Rd.setA (Rd.altsR (Rd.group k) r.fuel r).l (Rd.altsR (Rd.group k) r.fuel r).l.length (o.take j)).modify p fun x => { x with a := (Rd.pieces (Rd.group k) r1.fuel r1).l.length } := by
              rw [List.take_succ_eq_append_getElem hjn, setA_snoc, ← hp, HML.out]
            have HI7 := Lib.hid hI7; clear hI7 hI6
            have HF7 := Lib.hid hF7; clear hF7 hF6
            have HOwn7 := Lib.hid hown7; clear hown7 hown6
            have HST := Lib.hid hst; clear hst hln
            have HPe := Lib.hid hp; clear hp
            go_wp2_with fail
            refine QT.wp_region_qtail 12 (by kernel_rfl) (by kernel_rfl) (by kernel_rfl) ?_
            simp only [List.take_succ_cons, List.take_zero, List.drop_succ_cons, List.drop_zero]
            repeat (go_big_quiet_step (fail))
            refine wpQuiet_nil ?_
            go_wp2
            go_roundw
            case rel => exact ⟨j + 1, by omega, by go_num, by rw [HST.out]; exact HI7.out.drew, HF7.out.drew, HOwn7.out.drew⟩
            case measure => (simp [intOf] <;> omega)
          · have hje : j = o.length := by omega
            have HI6 := Lib.hid hI6; clear hI6
            have HF6 := Lib.hid hF6; clear hF6 hown6
            have HJ := Lib.hid hje; clear hje
            go_wp2
            go_end0
            refine ⟨rfl, ⟨.slice (some ⟨gl, 0, none⟩) (Rd.pieces (Rd.group k) r1.fuel r1).l.length capl, ?_⟩, HF6.out⟩
            rw [HFin.out, ← HJ.out]
            exact HI6.out
end Go.Proofs.YtnbgigdloehbjaaGreatDoor.Rg
