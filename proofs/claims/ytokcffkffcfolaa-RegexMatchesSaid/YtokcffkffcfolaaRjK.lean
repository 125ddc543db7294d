/-
  The document's Match.
-/
import Derived.Test.YtokcffkffcfolaaRjJ
import Derived.Test.YtokcffkffcfolaaRjH
namespace Go.Proofs.Ytokcffkffcfolaa.Rh
open Go Go.RowKit Go.Proofs.Ytokcffkffcfolaa.Rg

def RMPost (W : World) (P : List Inst) (b : ByteArray) (e : Ending) (W' : World) : Prop := e = .returned (.bool (matchG P b.data.toList)) ∧ Below W.heap.size W W'
theorem Emi.below {W wr : World} {base : Nat} {x : List Value} {v : Value} {N : Nat} {M : List Inst} (h : Emi W base x (.slice none 0 0) wr v N M) : Below W.heap.size W wr :=
  (h.done rfl).2.below (Nat.le_refl _) (fun _ hk => by simp [Value.ownBlock] at hk)
theorem below_drewN {B : Nat} {W W1 : World} (h : Below B W W1) (n : Nat) : Below B W (W1.drewN n) := ⟨h.os, h.tape, h.output, h.size, h.block⟩
theorem stepG_length (P : List Inst) (c : Nat) (now : List Bool) : ∀ (n k : Nat) (m : List Bool), (stepG P c now n k m).length = m.length
  | 0, _, _ => rfl
  | n + 1, k, m => by
    rw [stepG, stepG_length P c now n]
    split
    · rw [reachG_length]
    · rfl
theorem EmitC.first {n : T} (hn : EmitC n) {W wr : World} {base : Nat} {x : List Value} (h : Emi W base x (.slice none 0 0) wr (.slice none 0 0) 0 []) {c : List Value} (hH : Held W (fun b => b < base) n c) (hl : n.re.len ≤ 100000) :
    Calls Try.prog 37 #[.slice none 0 0, .agg c.toArray] wr fun q w2 => ∃ ao cap, q = .returned (.slice ao n.re.len cap) ∧ Emi W base x (.slice none 0 0) w2 (.slice ao n.re.len cap) n.re.len (n.re.code 0) := by
  have := hn.run h hH (by omega)
  rw [Nat.zero_add, List.nil_append] at this
  exact this
set_option maxRecDepth 100000 in
set_option maxHeartbeats 8000000 in
theorem rmatch_calls (t : T) (ht : t.isN) (P : List Inst) (hPe : t.re.code 0 ++ [⟨3, .zero, 0, 0⟩] = P) (hP : WF P) (hPl : P.length ≤ 20000) (b : ByteArray) (hbs : b.size ≤ 140737488351232) (W : World) (cs : List Value) (hH : Held W (fun b => b < W.heap.size) t cs) :
    Calls Try.prog 16 #[.agg cs.toArray, .string b] W (RMPost W P b) := by
  obtain ⟨j0, hj0, hy0, hy1, hy2⟩ := info_parts infoBool
  obtain ⟨kN, vN, fN, hcs, hv1⟩ := hH.shape ht
  have hln : cs.length = 258 := by rw [hcs, ncl_length]
  have hne : (cs = []) = False := by rw [hcs]; exact ncl_ne _ _ _
  have hPn : P.length = t.re.len + 1 := by rw [← hPe]; simp [Re.code_length]
  have hE : Emi W W.heap.size cs (.slice none 0 0) (W.alloc (.cells cs.toArray 38)) (.slice none 0 0) 0 [] := Emi.start (M := []) (World.ownsRow_nil _ _ _ _) (Nat.le_refl _)
  have hbx : (W.alloc (.cells cs.toArray 38)).heap[W.heap.size]? = some (.cells cs.toArray 38 (0, 0)) := blk_new W _
  have HBx := Lib.hid hbx; clear hbx
  have HE := Lib.hid hE; clear hE
  have HH := Lib.hid hH; clear hH
  have HPe := Lib.hid hPe; clear hPe
  have HP := Lib.hid hP; clear hP
  have HN := Lib.hid (emit_calls t ht)
  have hlen : t.re.len + 1 ≤ 20000 := by omega
  have HPn := Lib.hid hPn; clear hPn
  clear hcs hv1
  have hz87 := zero87
  have hk0 := icl_set0 0 4 (fun _ => false) 0 0
  go_enter Try.func16, Try.ntmps16
  go_wp2_with fail
  refine wp_load_row 38 (.tmp 2) rfl W.heap.size rfl 38 _ (0, 0) _ HBx.out Try.underlying38 rfl (by rw [nodeSize]; simp [hln]) ?_
  go_wp2_with fail
  (with_reducible refine (HN.out.first HE.out HH.out (by omega)).mono ?_)
  rintro q w2 ⟨a2, cap2, rfl, hE2⟩
  have HE2 := Lib.hid hE2; clear hE2
  go_wp2_with fail
  clear hz87 hk0
  refine wp_slice1 84 87 259 _ (.tmp 12) rfl (icl 4 (fun _ => false) 0 0).toArray rfl Try.underlying84 infoInst (by decide) (by decide) (icl_size _ _ _ _) ?_
  go_wp2_with fail
  refine wp_push (.tmp 11) (.tmp 13) rfl HE2.out (by omega) _ _ _ _ ⟨3, .zero, 0, 0⟩ (by rw [rcl_icl, zero_has]; rfl) rfl rfl ?_
  intro q capP w3 hE3
  rw [HPe.out] at hE3
  rw [← HPn.out] at hE3 ⊢
  have HDP := Lib.hid (DP.of hE3.own rfl)
  have HB3 := Lib.hid hE3.below; clear hE3 HE2
  have hw3 := HB3.out.size
  have hP0 : 0 < P.length := by have := HPn.out; omega
  go_wp2_with (refine wpList_make_full _ rfl (.tmp 16) (.tmp 16) _ rfl w3.heap.size 4 j0 (.bool false) 1 Try.underlying75 hj0 hy0 hy1 .i64 .i64 _ _ P.length rfl rfl rfl rfl (by rw [hy2]; omega) (by unfold maxLen; omega) (by omega) ?_; intro w4 hown4 hgrow4; have hin4 := own_full hown4; rw [made_bools] at hin4; have HIn := Lib.hid hin4; clear hin4 hown4; have HGr := Lib.hid hgrow4; clear hgrow4)
  have hw4 : w3.heap.size < w4.heap.size := blk_lt HIn.out
  have HDP4 := Lib.hid (HDP.out.keep (HGr.out.block q HDP.out.lt (by simp)))
  have HB4 := Lib.hid (HB3.out.grown HGr.out hw3 (fun k hk => by cases hk))
  have hr := rreach_calls w3.heap.size q P HP.out hPl capP w4 (none_ P) 0 HDP4.out HIn.out (none_length P) hP0 P.length
  rw [show ((0 : Nat) : Int) = 0 from rfl] at hr
  (with_reducible refine hr.mono ?_)
  clear hr
  rintro e w5 ⟨rfl, hDP5, hin5, hfr5⟩
  have HDP5 := Lib.hid hDP5; clear hDP5
  have HIn5 := Lib.hid (show w5.heap[w3.heap.size]? = some (.cells (boolVals (startG P)) 4 (0, 0)) from hin5); clear hin5
  have HB5 := Lib.hid (HB4.out.trans (hfr5.below (B := W.heap.size) (by omega) hw3)); clear hfr5 HIn
  have hsl : (startG P).length = P.length := by rw [startG, reachG_length, none_length]
  have HSl := Lib.hid hsl; clear hsl
  go_wp2_with fail
  go_loopw [6, 7] (fun vn i wr => ∃ (k bi : Nat) (m : List Bool), k ≤ b.size ∧ i = .int .i64 (k : Int) ∧ vn = .slice (some ⟨bi, 0, none⟩) P.length P.length ∧ wr.heap[bi]? = some (.cells (boolVals m) 4 (0, 0)) ∧ W.heap.size ≤ bi ∧ m.length = P.length ∧
    DP wr q P ∧ Below W.heap.size W wr ∧ runG P (b.data.toList.drop k) m = runG P b.data.toList (startG P)) (fun _ i _ => b.size - (intOf i).toNat)
  case atStart => exact ⟨0, w3.heap.size, startG P, Nat.zero_le _, rfl, rfl, HIn5.out, hw3, HSl.out, HDP5.out, HB5.out, rfl⟩
  case round =>
    obtain ⟨k, bi, m, hk, rfl, rfl, hin, hbi, hml, hdp, hbel, hrun⟩ := hrel
    obtain ⟨wo, hwo⟩ : ∃ wo : World, wo = wr := ⟨_, rfl⟩
    subst hwo
    have HIn := Lib.hid hin; clear hin
    have HMl := Lib.hid hml; clear hml
    have HDp := Lib.hid hdp; clear hdp
    have HBel := Lib.hid hbel; clear hbel
    have HRun := Lib.hid hrun; clear hrun
    by_cases hkb : k < b.size
    · have hwsz := HBel.out.size
      go_wp2_with (refine wpList_make_full _ rfl (.tmp 28) (.tmp 28) _ rfl wo.heap.size 4 j0 (.bool false) 1 Try.underlying75 hj0 hy0 hy1 .i64 .i64 _ _ P.length rfl rfl rfl rfl (by rw [hy2]; omega) (by unfold maxLen; omega) (by omega) ?_; intro w6 hown6 hgrow6; have hin6 := own_full hown6; rw [made_bools] at hin6; have HIn6 := Lib.hid hin6; clear hin6 hown6; have HGr6 := Lib.hid hgrow6; clear hgrow6)
      have hw6 : wo.heap.size < w6.heap.size := blk_lt HIn6.out
      have hbl : bi < wo.heap.size := blk_lt HIn.out
      have HDp6 := Lib.hid (HDp.out.keep (HGr6.out.block q HDp.out.lt (by simp)))
      have HIm6 := Lib.hid ((HGr6.out.block bi hbl (by simp)).trans HIn.out)
      have HB6 := Lib.hid (HBel.out.grown HGr6.out hwsz (fun k hk => by cases hk))
      obtain ⟨c, hc⟩ : ∃ c, c = (b[k]'hkb).toNat := ⟨_, rfl⟩
      have hc256 : c < 256 := by rw [hc]; exact UInt8.toNat_lt _
      have HC := Lib.hid hc; clear hc
      go_loopw [9] (fun i wq => ∃ (j : Nat) (m2 : List Bool), j ≤ P.length ∧ i = .int .i64 (j : Int) ∧ wq.heap[wo.heap.size]? = some (.cells (boolVals m2) 4 (0, 0)) ∧ wq.heap[bi]? = some (.cells (boolVals m) 4 (0, 0)) ∧ DP wq q P ∧ Below W.heap.size W wq ∧ m2.length = P.length ∧
        stepG P c m (P.length - j) j m2 = stepG P c m P.length 0 (none_ P)) (fun i _ => P.length - (intOf i).toNat)
      case atStart => exact ⟨0, none_ P, Nat.zero_le _, rfl, HIn6.out, HIm6.out, HDp6.out, HB6.out, none_length P, rfl⟩
      case round =>
        obtain ⟨j, m2, hj, rfl, hin2, him2, hdp2, hb2, hml2, hstep⟩ := hrel
        by_cases hjn : j < P.length
        · have hjm : j < m.length := by rw [HMl.out]; exact hjn
          have hcm : wr.cell? ⟨bi, j, none⟩ = some (.bool (m[j]'hjm)) := by rw [blk_cell him2 j]; simp [boolVals, hjm]
          obtain ⟨x, hx⟩ : ∃ x, P[j]? = some x := ⟨_, List.getElem?_eq_getElem hjn⟩
          have hxk := hdp2.cell hx 0 (by decide)
          have hxs := hdp2.cell hx (1 + c) (by omega)
          rw [rcl_kind, Nat.add_zero] at hxk
          rw [rcl_set x c hc256, ← Nat.add_assoc] at hxs
          have hst1 : stepG P c m (P.length - (j + 1)) (j + 1) (if m.getD j false && takes P j c then reachG P (2 * cf m2 + 1) m2 [j + 1] else m2) = stepG P c m P.length 0 (none_ P) := by
            rw [← hstep, show P.length - j = (P.length - (j + 1)) + 1 by omega]; rfl
          have hgd : m.getD j false = m[j]'hjm := by rw [List.getD, List.getElem?_eq_getElem hjm]; rfl
          have htk : takes P j c = (x.kind == 0 && x.set.has c) := by rw [takes, hx]
          rw [hgd, htk] at hst1
          clear hstep hgd htk
          have HIn2 := Lib.hid hin2; clear hin2
          have HIm2 := Lib.hid him2; clear him2
          have HDp2 := Lib.hid hdp2; clear hdp2
          have HB2 := Lib.hid hb2; clear hb2
          have HMl2 := Lib.hid hml2; clear hml2
          obtain ⟨mj, hmj⟩ : ∃ mj, mj = m[j]'hjm := ⟨_, rfl⟩
          rw [← hmj] at hcm hst1
          have HMj := Lib.hid hmj; clear hmj
          have HX := Lib.hid hx; clear hx
          have hs2 := HB2.out.size
          cases mj with
          | false =>
            have HSt := Lib.hid hst1; clear hst1
            go_wp2_with fail
            go_quiet (fail)
            go_wp2_with fail
            go_roundw
            case rel => exact ⟨j + 1, m2, by omega, by go_num, HIn2.out, HIm2.out, HDp2.out, below_drewN HB2.out _, HMl2.out, by simpa using HSt.out⟩
            case measure => (simp [intOf] <;> omega)
          | true =>
            by_cases hkz : x.kind = 0
            · rw [hkz] at hxk hst1
              rw [HC.out] at hxs
              have hcb : ((b[k]'hkb).toNat : Int) < 256 := by have := HC.out; omega
              cases hh : x.set.has c with
              | false =>
                rw [HC.out] at hh
                rw [hh] at hxs
                rw [HC.out, hh, ← HC.out] at hst1
                have HSt := Lib.hid hst1; clear hst1
                have HHh := Lib.hid hh; clear hh
                have HKz := Lib.hid hkz; clear hkz
                go_wp2_with fail
                go_quiet (fail)
                go_wp2_with fail
                go_roundw
                case rel => exact ⟨j + 1, m2, by omega, by go_num, HIn2.out, HIm2.out, HDp2.out, below_drewN HB2.out _, HMl2.out, by simpa using HSt.out⟩
                case measure => (simp [intOf] <;> omega)
              | true =>
                have htk : takes P j c = true := by rw [takes, HX.out]; simp [hkz, hh]
                have hj1 := takes_lt HP.out htk
                rw [HC.out] at hh
                rw [hh] at hxs
                rw [HC.out, hh, ← HC.out] at hst1
                have HSt := Lib.hid hst1; clear hst1
                have HHh := Lib.hid hh; clear hh htk
                have HKz := Lib.hid hkz; clear hkz
                go_wp2_with fail
                go_quiet (fail)
                go_wp2_with fail
                have hr := fun n => rreach_calls wo.heap.size q P HP.out hPl capP (wr.drewN n) m2 (j + 1) HDp2.out HIn2.out HMl2.out hj1 P.length
                rw [show ((j + 1 : Nat) : Int) = (j : Int) + 1 from rfl] at hr
                (with_reducible refine (hr _).mono ?_)
                clear hr
                rintro e w7 ⟨rfl, hDP7, hin7, hfr7⟩
                have hbw : bi ≠ wo.heap.size := by omega
                have HDP7 := Lib.hid hDP7; clear hDP7
                have HIn7 := Lib.hid hin7; clear hin7
                have HIm7 := Lib.hid ((hfr7.block bi (by have := blk_lt HIm2.out; exact this) hbw).trans HIm2.out)
                have HB7 := Lib.hid ((below_drewN HB2.out _).trans (hfr7.below (B := W.heap.size) (by exact hs2) hwsz)); clear hfr7
                have HMl7 := Lib.hid (show (reachG P (2 * cf m2 + 1) m2 [j + 1]).length = P.length by rw [reachG_length]; exact HMl2.out)
                go_wp2_with fail
                go_roundw
                case rel => exact ⟨j + 1, _, by omega, by go_num, HIn7.out, HIm7.out, HDP7.out, HB7.out, HMl7.out, by simpa using HSt.out⟩
                case measure => (simp [intOf] <;> omega)
            · have b1 : ((x.kind : Int) + 1 == 1) = false := by rw [beq_eq_false_iff_ne]; omega
              have b2 : (x.kind == 0) = false := by rw [beq_eq_false_iff_ne]; omega
              rw [b2] at hst1
              have HSt := Lib.hid hst1; clear hst1 b2 hkz
              go_wp2_with fail
              go_quiet (fail)
              go_wp2_with fail
              go_roundw
              case rel => exact ⟨j + 1, m2, by omega, by go_num, HIn2.out, HIm2.out, HDp2.out, below_drewN HB2.out _, HMl2.out, by simpa using HSt.out⟩
              case measure => (simp [intOf] <;> omega)
        · have hje : j = P.length := by omega
          have hdk : b.data.toList.drop k = b[k] :: b.data.toList.drop (k + 1) := by
            rw [List.drop_eq_getElem_cons (by simpa using hkb)]; rfl
          have hrun' : runG P (b.data.toList.drop (k + 1)) m2 = runG P b.data.toList (startG P) := by
            rw [← HRun.out, hdk, runG, ← HC.out, ← hstep, hje, Nat.sub_self]; rfl
          have HRun' := Lib.hid hrun'; clear hrun' hdk hje hstep
          have HIn2 := Lib.hid hin2; clear hin2
          have HDp2 := Lib.hid hdp2; clear hdp2 him2
          have HB2 := Lib.hid hb2; clear hb2
          have HMl2 := Lib.hid hml2; clear hml2
          go_wp2_with fail
          go_roundw
          case rel => exact ⟨k + 1, wo.heap.size, m2, by omega, by go_num, rfl, HIn2.out, hwsz, HMl2.out, HDp2.out, HB2.out, HRun'.out⟩
          case measure => (simp [intOf] <;> omega)
    · have hke : k = b.size := by omega
      have hfin : runG P b.data.toList (startG P) = m := by
        rw [← HRun.out, hke, List.drop_eq_nil_of_le (by rw [Array.length_toList]; exact Nat.le_refl _)]; rfl
      have hlm : P.length - 1 < m.length := by rw [HMl.out]; omega
      have hcm : wo.cell? ⟨bi, P.length - 1, none⟩ = some (.bool (m[P.length - 1]'hlm)) := by rw [blk_cell HIn.out]; simp [boolVals, hlm]
      have hans : matchG P b.data.toList = m[P.length - 1]'hlm := by rw [matchG, hfin, List.getD, List.getElem?_eq_getElem hlm]; rfl
      obtain ⟨mj, hmj⟩ : ∃ mj, mj = m[P.length - 1]'hlm := ⟨_, rfl⟩
      rw [← hmj] at hcm hans
      have HMj := Lib.hid hmj; clear hmj hfin hke
      have HAns := Lib.hid hans; clear hans
      go_wp2_with fail
      go_ret
      exact ⟨by rw [HAns.out]; rfl, HBel.out⟩
end Go.Proofs.Ytokcffkffcfolaa.Rh
