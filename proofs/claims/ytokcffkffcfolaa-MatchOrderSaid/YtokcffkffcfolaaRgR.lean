/-
  The method Match of a program.
-/
import Derived.Test.YtokcffkffcfolaaRgO
namespace Go.Proofs.Ytokcffkffcfolaa.Rg
open Go Go.RowKit

/-- Is a byte taken at this place? -/
def takes (P : List Inst) (i c : Nat) : Bool := match P[i]? with | some x => x.kind == 0 && x.set.has c | none => false
/-- From the places now, by a byte: where one comes to. -/
def stepF (P : List Inst) (c : Nat) : List Nat → List Bool → List Nat → List Bool × List Nat
  | [], m, l => (m, l)
  | i :: now, m, l => if takes P i c then stepF P c now (reachF P (2 * cf m + 1) m l [i + 1]).1 (reachF P (2 * cf m + 1) m l [i + 1]).2 else stepF P c now m l
def none_ (P : List Inst) : List Bool := List.replicate P.length false
def startF (P : List Inst) : List Nat := (reachF P (2 * cf (none_ P) + 1) (none_ P) [] [0]).2
def runF (P : List Inst) : List UInt8 → List Nat → List Nat
  | [], now => now
  | c :: b, now => runF P b (stepF P c.toNat now (none_ P) []).2
def ends (P : List Inst) (i : Nat) : Bool := match P[i]? with | some x => x.kind == 3 | none => false
def matchF (P : List Inst) (b : List UInt8) : Bool := (runF P b (startF P)).any (ends P)

theorem cf_none (P : List Inst) : cf (none_ P) = P.length := by simp [cf, none_]
theorem none_length (P : List Inst) : (none_ P).length = P.length := by simp [none_]
/-- What reach keeps. -/
theorem reachF_keeps (P : List Inst) (hP : WF P) : ∀ (n : Nat) (m : List Bool) (l st : List Nat), m.length = P.length → (∀ i ∈ st, i < P.length) → (∀ i ∈ l, i < P.length) →
    (reachF P n m l st).1.length = P.length ∧ (reachF P n m l st).2.length + cf (reachF P n m l st).1 = l.length + cf m ∧ ∀ i ∈ (reachF P n m l st).2, i < P.length
  | 0, m, l, st, hm, _, hl => ⟨hm, rfl, hl⟩
  | n + 1, m, l, [], hm, _, hl => ⟨hm, rfl, hl⟩
  | n + 1, m, l, i :: st, hm, hs, hl => by
    have hi := hs i (by simp)
    have hs' : ∀ k ∈ st, k < P.length := fun k hk => hs k (by simp [hk])
    unfold reachF
    split
    · exact reachF_keeps P hP n m l st hm hs' hl
    · rename_i h
      have hf : m[i]? = some false := by
        rw [List.getElem?_eq_getElem (by omega)]
        simp [List.getD, List.getElem?_eq_getElem (show i < m.length by omega)] at h
        rw [h]
      have hc := cf_set m i hf
      have ih := reachF_keeps P hP n (m.set i true) (l ++ [i]) (succs P i ++ st) (by simpa using hm) (fun k hk => by
        rcases List.mem_append.1 hk with hk | hk
        · exact succs_lt hP i k hk
        · exact hs' k hk) (fun k hk => by
        rcases List.mem_append.1 hk with hk | hk
        · exact hl k hk
        · simp at hk; omega)
      refine ⟨ih.1, ?_, ih.2.2⟩
      rw [ih.2.1]; simp; omega

theorem made_bools (n : Nat) : (madeCells (Value.bool false).cells (n * 1)).toList = (boolVals (List.replicate n false)).toList := by
  simp only [madeCells, boolVals, Value.cells, Nat.mul_one]
  apply List.ext_getElem?
  intro i
  simp only [Array.toList_map, Array.toList_range, List.getElem?_map, List.map_replicate, List.getElem?_replicate]
  by_cases h : i < n
  · simp [h, Nat.mod_one]
  · simp [h]
theorem own_full {w : World} {base e g n : Nat} {xs : List Value} (h : w.ownsRow base e 1 (.slice (some ⟨g, 0, none⟩) n n) n xs) : w.heap[g]? = some (.cells xs.toArray e (0, 0)) := by
  rcases h.2 with ⟨h0, _⟩ | ⟨g', cap', cur, hv, hg, hh, hn, hcap, hsz, htk⟩
  · cases h0
  · cases hv
    have : cur.toList = xs := by rw [← htk]; exact (List.take_of_length_le (by simp [hsz])).symm
    rw [← this]; simpa using hh
theorem infoBool : (Try.prog.info? 4).map (fun i => (i.zero, i.size, i.bytes)) = some (some (.bool false), 1, 1) := by kernel_rfl
theorem FrI.below {base bi B : Nat} {W W1 : World} (h : FrI base bi W W1) (h1 : B ≤ base) (h2 : B ≤ bi) : Below B W W1 := ⟨h.os, h.tape, h.output, h.size, fun k hk => h.block k (by omega) (by omega)⟩
theorem Bs.cell (S : Bs) (x : Inst) (hx : x.set = S) (c : Nat) (hc : c < 256) : x.cells[1 + c / 64]? = some (.int .u64 (S.word (c / 64))) := by
  subst hx
  have h : c / 64 < 4 := by omega
  generalize c / 64 = i at h
  match i, h with
  | 0, _ => rfl
  | 1, _ => rfl
  | 2, _ => rfl
  | 3, _ => rfl
def MatchPost (W : World) (P : List Inst) (b : ByteArray) (e : Ending) (W' : World) : Prop := e = .returned (.bool (matchF P b.data.toList)) ∧ Below W.heap.size W W'

set_option maxRecDepth 100000 in
set_option maxHeartbeats 4000000 in
theorem match_calls (p : Nat) (P : List Inst) (hP : WF P) (hPl : P.length ≤ 20000) (hP0 : 0 < P.length) (b : ByteArray) (hbs : b.size ≤ 140737488351232) (W : World) (hpr : IsProg W p P) :
    Calls Try.prog 13 #[.pointer (some ⟨p, 0, none⟩), .string b] W (MatchPost W P b) := by
  obtain ⟨j0, hj0, hy0, hy1, hy2⟩ := info_parts infoBool
  obtain ⟨gp, cp, hc0, _⟩ := hpr.cells
  have HPr := Lib.hid hpr; clear hpr
  have HP := Lib.hid hP; clear hP
  go_enter Try.func13, Try.ntmps13
  go_wp2_with (refine wpList_make_full _ rfl (.tmp 19) (.tmp 19) _ rfl W.heap.size 4 j0 (.bool false) 1 Try.underlying75 hj0 hy0 hy1 .i64 .i64 _ _ P.length rfl rfl rfl rfl (by rw [hy2]; omega) (by unfold maxLen; omega) (by omega) ?_; intro w1 hown1 hgrow1; have hin1 := own_full hown1; rw [made_bools] at hin1; have HIn := Lib.hid hin1; clear hin1 hown1; have HGr := Lib.hid hgrow1; clear hgrow1)
  have HW1 := Lib.hid ((Below.refl W.heap.size W).grown HGr.out (Nat.le_refl _) (fun k hk => by cases hk))
  have HPr1 := Lib.hid (HPr.out.below HW1.out)
  have hsz1 : W.heap.size < w1.heap.size := blk_lt HIn.out
  have hcf := cf_none P
  have HCf := Lib.hid hcf; clear hcf
  refine (reach_calls w1.heap.size W.heap.size p P HP.out hPl w1 (none_ P) [] (.slice none 0 0) 0 HPr1.out HIn.out (World.ownsRow_nil _ _ _ _) (Nat.le_refl _) (none_length P) hP0 (by rw [HCf.out]; simp; omega)).mono ?_
  rintro q w2 ⟨vn, rfl, hpr2, hin2, hown2, hfr2⟩
  have hkp := reachF_keeps P HP.out (2 * cf (none_ P) + 1) (none_ P) [] [0] (none_length P) (by simpa using hP0) (by simp)
  have hsl : (startF P).length ≤ P.length := by
    have h1 := hkp.2.1
    rw [HCf.out] at h1
    have : (startF P).length = (reachF P (2 * cf (none_ P) + 1) (none_ P) [] [0]).2.length := rfl
    simp at h1; rw [this, HCf.out]; omega
  have hst : ∀ i ∈ startF P, i < P.length := hkp.2.2
  have hown2' : w2.ownsRow W.heap.size 3 1 vn (startF P).length (outVals (startF P)) := own_weak hown2 (by omega)
  have HOwn2 := Lib.hid hown2'; clear hown2 hown2'
  have HPr2 := Lib.hid hpr2; clear hpr2
  have HB2 := Lib.hid (HW1.out.trans (hfr2.below (B := W.heap.size) (by omega) (Nat.le_refl _))); clear hfr2 hin2 hkp
  have HSt := Lib.hid hst; clear hst
  go_wp2_with fail
  go_loopw [24, 5] (fun i vo wr => ∃ (k : Nat) (now : List Nat), k ≤ b.size ∧ i = .int .i64 (k : Int) ∧ wr.ownsRow W.heap.size 3 1 vo now.length (outVals now) ∧ IsProg wr p P ∧ Below W.heap.size W wr ∧ (∀ i ∈ now, i < P.length) ∧ now.length ≤ P.length ∧
    runF P (b.data.toList.drop k) now = runF P b.data.toList (startF P)) (fun i _ _ => b.size - (intOf i).toNat)
  case atStart => exact ⟨0, startF P, Nat.zero_le _, rfl, HOwn2.out, HPr2.out, HB2.out, HSt.out, hsl, rfl⟩
  case round =>
    obtain ⟨k, now, hk, rfl, hown, hpr, hbel, hnow, hnl, hrun⟩ := hrel
    obtain ⟨wo, hwo⟩ : ∃ wo : World, wo = wr := ⟨_, rfl⟩
    subst hwo
    obtain ⟨gq, cq, hcq, hcc⟩ := hpr.cells
    obtain ⟨ao, capn, rfl⟩ := own_any hown
    have HOwn := Lib.hid hown; clear hown
    have HPrR := Lib.hid hpr; clear hpr
    have HBel := Lib.hid hbel; clear hbel
    have HNow := Lib.hid hnow; clear hnow
    have HRun := Lib.hid hrun; clear hrun
    have HCC := Lib.hid hcc; clear hcc
    by_cases hkb : k < b.size
    · have hwsz := HBel.out.size
      go_wp2_with (refine wpList_make_full _ rfl (.tmp 31) (.tmp 31) _ rfl W.heap.size 4 j0 (.bool false) 1 Try.underlying75 hj0 hy0 hy1 .i64 .i64 _ _ P.length rfl rfl rfl rfl (by rw [hy2]; omega) (by unfold maxLen; omega) (by omega) ?_; intro w3 hown3 hgrow3; have hin3 := own_full hown3; rw [made_bools] at hin3; have HIn3 := Lib.hid hin3; clear hin3 hown3; have HGr3 := Lib.hid hgrow3; clear hgrow3)
      obtain ⟨c, hc⟩ : ∃ c, c = (b[k]'hkb).toNat := ⟨_, rfl⟩
      have hc256 : c < 256 := by rw [hc]; exact UInt8.toNat_lt _
      have hsz3 : wo.heap.size < w3.heap.size := blk_lt HIn3.out
      have HPr3 := Lib.hid (HPrR.out.below ((Below.refl wo.heap.size wo).grown HGr3.out (Nat.le_refl _) (fun k hk => by cases hk)))
      have HOwn3 := Lib.hid (own_below HOwn.out ((Below.refl wo.heap.size wo).grown HGr3.out (Nat.le_refl _) (fun k hk => by cases hk)))
      have HB3 := Lib.hid (HBel.out.grown HGr3.out hwsz (fun k hk => by cases hk))
      have HC := Lib.hid hc; clear hc
      go_loopw [35, 8] (fun i vx wq => ∃ (j : Nat) (m : List Bool) (l : List Nat), j ≤ now.length ∧ i = .int .i64 (j : Int) ∧ wq.heap[wo.heap.size]? = some (.cells (boolVals m) 4 (0, 0)) ∧ wq.ownsRow w3.heap.size 3 1 vx l.length (outVals l) ∧ IsProg wq p P ∧ FrI w3.heap.size wo.heap.size w3 wq ∧
        m.length = P.length ∧ l.length + cf m = P.length ∧ (∀ i ∈ l, i < P.length) ∧ stepF P c (now.drop j) m l = stepF P c now (none_ P) []) (fun i _ _ => now.length - (intOf i).toNat)
      case atStart => exact ⟨0, none_ P, [], Nat.zero_le _, rfl, HIn3.out, World.ownsRow_nil _ _ _ _, HPr3.out, FrI.refl _ _ _, none_length P, by rw [HCf.out]; simp, by simp, rfl⟩
      case round =>
        obtain ⟨j, m, l, hj, rfl, hin, hol, hpr, hfr, hml, hlc, hll, hstep⟩ := hrel
        have HIn := Lib.hid hin; clear hin
        have HOl := Lib.hid hol; clear hol
        have HPrq := Lib.hid hpr; clear hpr
        have HFr := Lib.hid hfr; clear hfr
        have HMl := Lib.hid hml; clear hml
        have HLc := Lib.hid hlc; clear hlc
        have HLl := Lib.hid hll; clear hll
        have HSt2 := Lib.hid hstep; clear hstep
        by_cases hjn : j < now.length
        · obtain ⟨nb, capn', hv, hnb, hnbl⟩ := HOwn3.out.form (by omega)
          simp only [Value.slice.injEq, true_and] at hv
          obtain ⟨rfl, rfl⟩ := hv
          have hbq : Below wo.heap.size wo wr := ((Below.refl wo.heap.size wo).grown HGr3.out (Nat.le_refl _) (fun k hk => by cases hk)).trans (HFr.out.below (by omega) (Nat.le_refl _))
          have cn : wr.cell? ⟨nb, j, none⟩ = some (.int .i64 ((now[j]'hjn : Nat) : Int)) := by
            rw [(own_below HOwn.out hbq).cellAt j (by omega)]
            simp [outVals, List.getElem?_map, List.getElem?_eq_getElem hjn]
          have hnP := HNow.out _ (List.getElem_mem hjn)
          have hdr : now.drop j = now[j]'hjn :: now.drop (j + 1) := List.drop_eq_getElem_cons hjn
          obtain ⟨i, hi⟩ : ∃ i, i = now[j]'hjn := ⟨_, rfl⟩
          rw [← hi] at cn hnP hdr
          have hxi : P[i]? = some (P[i]'hnP) := List.getElem?_eq_getElem hnP
          obtain ⟨x, hx⟩ : ∃ x, x = P[i]'hnP := ⟨_, rfl⟩
          rw [← hx] at hxi
          obtain ⟨gr, cr, ci, hcell⟩ := HPrq.out.cells
          have hwd := hcell i (1 + c / 64) hnP (by omega)
          rw [← hx, Bs.cell x.set x rfl c hc256, ← Nat.add_assoc] at hwd
          have hk0 := hcell i 0 hnP (by omega)
          rw [← hx] at hk0
          simp only [Inst.cells, List.getElem?_cons_zero, Nat.add_zero] at hk0
          have hwf := HP.out i x hxi
          have HX := Lib.hid hxi; clear hxi hx hi hcell
          have HDr := Lib.hid hdr; clear hdr
          have HWF := Lib.hid hwf; clear hwf
          have HBq := Lib.hid hbq; clear hbq
          by_cases hkz : x.kind = 0
          · rw [hkz] at hk0
            have hwl := Bs.word_lt HWF.out.2.2.2 (c / 64)
            have hi1 := HWF.out.2.2.1 hkz
            by_cases hhas : x.set.has c = true
            · have htk : takes P i c = true := by rw [takes, HX.out]; simp [hkz, hhas]
              have hbit : (x.set.word (c / 64)).testBit (c % 64) = true := hhas
              have HTk := Lib.hid htk; clear htk
              have HKz := Lib.hid hkz; clear hkz
              have HBit := Lib.hid hbit; clear hbit hhas
              go_wp2_with fail
              go_quiet ((go_at_call 33; rw [← HC.out]; refine Calls.quiet_of_same (sethas_calls _ _ c hc256 _ hwd hwl)))
              rw [HBit.out]
              go_wp2_with fail
              have hb5 : w3.heap.size ≤ wr.heap.size := HFr.out.size
              have hr := fun q vl h => reach_calls w3.heap.size wo.heap.size p P HP.out hPl (wr.drewN q) m l vl (i + 1) (HPrq.out.drewN _) HIn.out h hb5 HMl.out hi1 (by have := HLc.out; omega)
              rw [show ((i + 1 : Nat) : Int) = (i : Int) + 1 from rfl] at hr
              refine (hr _ _ HOl.out).mono ?_
              clear hr
              rintro q w5 ⟨v5, rfl, hpr5, hin5, hol5, hfr5⟩
              have hkp := reachF_keeps P HP.out (2 * cf m + 1) m l [i + 1] HMl.out (by simpa using hi1) HLl.out
              have HKp := Lib.hid hkp; clear hkp
              have hst5 : stepF P c (now.drop (j + 1)) (reachF P (2 * cf m + 1) m l [i + 1]).1 (reachF P (2 * cf m + 1) m l [i + 1]).2 = stepF P c now (none_ P) [] := by
                rw [← HSt2.out, HDr.out, stepF, if_pos HTk.out]
              have HSt5 := Lib.hid hst5; clear hst5
              have HPr5 := Lib.hid hpr5; clear hpr5
              have HIn5 := Lib.hid hin5; clear hin5
              have HOl5 := Lib.hid hol5; clear hol5
              have HFr5 := Lib.hid ((HFr.out.drewN _).trans hfr5); clear hfr5
              go_wp2_with fail
              go_roundw
              case rel => exact ⟨j + 1, _, _, by omega, by go_num, HIn5.out, HOl5.out, HPr5.out, HFr5.out, HKp.out.1, HKp.out.2.1.trans HLc.out, HKp.out.2.2, HSt5.out⟩
              case measure => (simp [intOf] <;> omega)
            · have hhf : x.set.has c = false := by simpa using hhas
              have htk : takes P i c = false := by rw [takes, HX.out]; simp [hkz, hhf]
              have hbit : (x.set.word (c / 64)).testBit (c % 64) = false := hhf
              have hst5 : stepF P c (now.drop (j + 1)) m l = stepF P c now (none_ P) [] := by
                rw [← HSt2.out, HDr.out, stepF, if_neg (by rw [htk]; simp)]
              have HSt5 := Lib.hid hst5; clear hst5
              have HTk := Lib.hid htk; clear htk
              have HKz := Lib.hid hkz; clear hkz
              clear hhas
              have HBit := Lib.hid hbit; clear hbit hhf
              go_wp2_with fail
              go_quiet ((go_at_call 33; rw [← HC.out]; refine Calls.quiet_of_same (sethas_calls _ _ c hc256 _ hwd hwl)))
              rw [HBit.out]
              go_wp2_with fail
              go_roundw
              case rel => exact ⟨j + 1, m, l, by omega, by go_num, HIn.out, HOl.out, HPrq.out, HFr.out.drewN _, HMl.out, HLc.out, HLl.out, HSt5.out⟩
              case measure => (simp [intOf] <;> omega)
          · have htk : takes P i c = false := by rw [takes, HX.out]; simp [hkz]
            have hst5 : stepF P c (now.drop (j + 1)) m l = stepF P c now (none_ P) [] := by
              rw [← HSt2.out, HDr.out, stepF, if_neg (by rw [htk]; simp)]
            have b1 : ((x.kind : Int) == 0) = false := by rw [beq_eq_false_iff_ne]; omega
            have HSt5 := Lib.hid hst5; clear hst5
            have HTk := Lib.hid htk; clear htk
            clear hkz
            go_wp2_with fail
            go_quiet (fail)
            go_wp2_with fail
            go_roundw
            case rel => exact ⟨j + 1, m, l, by omega, by go_num, HIn.out, HOl.out, HPrq.out, HFr.out.drewN _, HMl.out, HLc.out, HLl.out, HSt5.out⟩
            case measure => (simp [intOf] <;> omega)
        · have hje : j = now.length := by omega
          have hdk : b.data.toList.drop k = b[k] :: b.data.toList.drop (k + 1) := by
            rw [List.drop_eq_getElem_cons (by simpa using hkb)]; rfl
          have hrun' : runF P (b.data.toList.drop (k + 1)) l = runF P b.data.toList (startF P) := by
            rw [← HRun.out, hdk, runF, ← HC.out, ← HSt2.out, hje, List.drop_length]; rfl
          have hown' : wr.ownsRow W.heap.size 3 1 u8 l.length (outVals l) := own_weak HOl.out (by omega)
          have HB' := Lib.hid (HB3.out.trans (HFr.out.below (B := W.heap.size) (by omega) hwsz))
          have hll : l.length ≤ P.length := by have := HLc.out; omega
          have HRun' := Lib.hid hrun'; clear hrun' hdk
          have HOwn' := Lib.hid hown'; clear hown'
          go_wp2_with fail
          go_roundw
          case rel => exact ⟨k + 1, l, by omega, by go_num, HOwn'.out, HPrq.out, HB'.out, HLl.out, hll, HRun'.out⟩
          case measure => (simp [intOf] <;> omega)
    · have hke : k = b.size := by omega
      have hfin : runF P b.data.toList (startF P) = now := by
        rw [← HRun.out, hke, List.drop_eq_nil_of_le (by rw [Array.length_toList]; exact Nat.le_refl _)]; rfl
      have HFin := Lib.hid hfin; clear hfin
      go_wp2_with fail
      go_loopw [70] (fun i wq => ∃ j : Nat, j ≤ now.length ∧ i = .int .i64 (j : Int) ∧ IsProg wq p P ∧ Below W.heap.size W wq ∧ wq.ownsRow W.heap.size 3 1 (.slice ao now.length capn) now.length (outVals now) ∧ (now.take j).any (ends P) = false) (fun i _ => now.length - (intOf i).toNat)
      case atStart => exact ⟨0, Nat.zero_le _, rfl, HPrR.out, HBel.out, HOwn.out, rfl⟩
      case round =>
        obtain ⟨j, hj, rfl, hpr, hbel, hown, hany⟩ := hrel
        have HPrq := Lib.hid hpr; clear hpr
        have HBq := Lib.hid hbel; clear hbel
        have HOwnq := Lib.hid hown; clear hown
        have HAny := Lib.hid hany; clear hany
        by_cases hjn : j < now.length
        · obtain ⟨nb, capn', hv, hnb, hnbl⟩ := HOwnq.out.form (by omega)
          simp only [Value.slice.injEq, true_and] at hv
          obtain ⟨rfl, rfl⟩ := hv
          have cn : wr.cell? ⟨nb, j, none⟩ = some (.int .i64 ((now[j]'hjn : Nat) : Int)) := by
            rw [HOwnq.out.cellAt j (by omega)]
            simp [outVals, List.getElem?_map, List.getElem?_eq_getElem hjn]
          have hnP := HNow.out _ (List.getElem_mem hjn)
          have htk : now.take (j + 1) = now.take j ++ [now[j]'hjn] := by rw [List.take_add_one, List.getElem?_eq_getElem hjn]; rfl
          obtain ⟨i, hi⟩ : ∃ i, i = now[j]'hjn := ⟨_, rfl⟩
          rw [← hi] at cn hnP htk
          have hmem : i ∈ now := hi ▸ List.getElem_mem hjn
          have hxi : P[i]? = some (P[i]'hnP) := List.getElem?_eq_getElem hnP
          obtain ⟨x, hx⟩ : ∃ x, x = P[i]'hnP := ⟨_, rfl⟩
          rw [← hx] at hxi
          obtain ⟨gr, cr, ci, hcell⟩ := HPrq.out.cells
          have hk0 := hcell i 0 hnP (by omega)
          rw [← hx] at hk0
          simp only [Inst.cells, List.getElem?_cons_zero, Nat.add_zero] at hk0
          have HX := Lib.hid hxi; clear hxi hx hi hcell
          have HTk := Lib.hid htk; clear htk
          have HMem := Lib.hid hmem; clear hmem
          by_cases hk3 : x.kind = 3
          · rw [hk3] at hk0
            have hend : matchF P b.data.toList = true := by
              rw [matchF, HFin.out, List.any_eq_true]
              exact ⟨i, HMem.out, by rw [ends, HX.out]; simp [hk3]⟩
            have HEnd := Lib.hid hend; clear hend hk3
            go_wp2_with fail
            go_ret
            exact ⟨by rw [HEnd.out]; rfl, HBq.out⟩
          · have b1 : ((x.kind : Int) == 3) = false := by rw [beq_eq_false_iff_ne]; omega
            have hany : (now.take (j + 1)).any (ends P) = false := by
              rw [HTk.out, List.any_append, HAny.out, List.any_cons, ends, HX.out]; simp [hk3]
            have HAny' := Lib.hid hany; clear hany hk3
            go_wp2_with fail
            go_roundw
            case rel => exact ⟨j + 1, by omega, by go_num, HPrq.out, HBq.out, HOwnq.out, HAny'.out⟩
            case measure => (simp [intOf] <;> omega)
        · have hend : matchF P b.data.toList = false := by
            rw [matchF, HFin.out, ← HAny.out, show j = now.length by omega, List.take_length]
          have HEnd := Lib.hid hend; clear hend
          go_wp2_with fail
          go_ret
          exact ⟨by rw [HEnd.out]; rfl, HBq.out⟩
end Go.Proofs.Ytokcffkffcfolaa.Rg
