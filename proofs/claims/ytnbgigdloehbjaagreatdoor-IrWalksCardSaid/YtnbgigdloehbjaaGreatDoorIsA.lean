/-
  How many nodes may be gone through (budget, Few of isobarlaw12).
-/
import Derived.Test.YtnbgigdloehbjaaGreatDoorIrQ
import Derived.LoopN
namespace Go.Proofs.YtnbgigdloehbjaaGreatDoor.Ir
open Go Go.RowKit Go.Proofs.YtnbgigdloehbjaaGreatDoor.Rg Go.Proofs.YtnbgigdloehbjaaGreatDoor.Ma
set_option maxHeartbeats 8000000
set_option maxRecDepth 100000

/-- What is left, at the most: if anything is, the plan is small. -/
def RetBud (left : Nat) (n : Nd) (W : World) (e : Ending) (W' : World) : Prop := ∃ x : Nat, e = .returned (.int .i64 (x : Int)) ∧ x ≤ left ∧ (0 < x → n.Sm ∧ n.tot + x ≤ left) ∧ Below W.heap.size W W'
theorem take_all {α : Type} {p : α → Prop} {l : List α} {k : Nat} {m : α} (h : ∀ x ∈ l.take k, p x) (hk : l[k]? = some m) (hm : p m) : ∀ x ∈ l.take (k + 1), p x := by
  rw [List.take_add_one, hk]
  intro x hx
  rw [List.mem_append] at hx
  rcases hx with hx | hx
  · exact h x hx
  · simp at hx; rw [hx]; exact hm
theorem mat_at' {W : World} {v : Value} {l : List Mr} (h : Row W Any v l.length 3 (mcells l)) {k : Nat} (hk : k < l.length) :
    ∃ b o cap, v = .slice (some ⟨b, o, none⟩) l.length cap ∧ ∃ m, l[k]? = some m ∧ W.cell? ⟨b, o + k * 3, none⟩ = some (.int .i64 m.kind) ∧ W.cell? ⟨b, o + k * 3 + 1, none⟩ = some (.string m.name) ∧ W.cell? ⟨b, o + k * 3 + 2, none⟩ = some (.string m.value) := by
  obtain ⟨ao, cap, rfl, hc⟩ := (rowM_of h).val
  obtain ⟨b, o, rfl, hm⟩ := hc (by omega)
  have hi : l[k]? = some l[k] := List.getElem?_eq_getElem hk
  exact ⟨b, o, cap, rfl, _, hi, hm k _ hi⟩
abbrev BudC (d : Nat) : Prop := ∀ (n : Nd) (W : World) (cs : List Value) (left : Nat), left ≤ 1000 → n.Held W Any cs → Calls Tryz.prog 15 #[.agg cs.toArray, .int .i64 (d : Int), .int .i64 (left : Int)] W (RetBud left n W)
theorem budget_calls : ∀ d : Nat, d ≤ 100 → BudC d := by
  intro d
  induction d with
  | zero =>
    rintro _ n W cs left hleft hH
    clear hH
    by_cases h0 : left = 0
    · subst h0
      go_enter Tryz.func15, Tryz.ntmps15
      go_wp2_with fail
      go_ret
      exact ⟨0, rfl, Nat.zero_le _, fun h => absurd h (by decide), (Below.refl _ _).alloc (Nat.le_refl _) _⟩
    · have h1 : ¬ (left : Int) ≤ 0 := by omega
      go_enter Tryz.func15, Tryz.ntmps15
      go_wp2_with fail
      go_ret
      exact ⟨0, rfl, Nat.zero_le _, fun h => absurd h (by decide), (Below.refl _ _).alloc (Nat.le_refl _) _⟩
  | succ d ih =>
    rintro hd ⟨f, l⟩ W cs left hleft hH
    by_cases h0 : left = 0
    · subst h0
      clear hH ih
      go_enter Tryz.func15, Tryz.ntmps15
      go_wp2_with fail
      go_ret
      exact ⟨0, rfl, Nat.zero_le _, fun h => absurd h (by decide), (Below.refl _ _).alloc (Nat.le_refl _) _⟩
    obtain ⟨left, rfl⟩ : ∃ y, left = y + 1 := ⟨left - 1, by omega⟩
    clear h0
    obtain ⟨vM, vG, vX, vI, aK, cK, ls, hcs, hf, hl, hK⟩ := hH.open
    obtain ⟨_, aM, cM, rfl, _⟩ := id hf.m
    obtain ⟨_, aG, cG, rfl, _⟩ := id hf.g
    obtain ⟨_, aX, cX, rfl, _⟩ := id hf.x
    obtain ⟨_, aI, cI, rfl, _⟩ := id hf.i
    have k3 : cs[3]? = some (.slice aM f.m.length cM) := by rw [hcs]; rfl
    have k8 : cs[8]? = some (.slice aG f.gn.length cG) := by rw [hcs]; rfl
    have k10 : cs[10]? = some (.slice aX f.xn.length cX) := by rw [hcs]; rfl
    have k12 : cs[12]? = some (.slice aI f.incl.length cI) := by rw [hcs]; rfl
    have k14 : cs[14]? = some (.string f.name) := by rw [hcs]; rfl
    have k15 : cs[15]? = some (.string f.value) := by rw [hcs]; rfl
    have k16 : cs[16]? = some (.slice aK l.len cK) := by rw [hcs]; rfl
    obtain ⟨B, hB⟩ : ∃ B, B = W.alloc (.cells cs.toArray 31) := ⟨_, rfl⟩
    have hbB : Below W.heap.size W B := by rw [hB]; exact (Below.refl _ _).alloc (Nat.le_refl _) _
    have hsB : B.heap.size = W.heap.size + 1 := by rw [hB]; simp
    have hg : B.heap[W.heap.size]? = some (.cells cs.toArray 31 (0, 0)) := by rw [hB]; exact blk_new W _
    have na : ∀ j, B.cell? ⟨W.heap.size, j, none⟩ = cs[j]? := fun j => (blk_cell hg j).trans (List.getElem?_toArray ..)
    have HbB := Lib.hid hbB; have Hg := Lib.hid hg
    have HF := Lib.hid hf; have HL := Lib.hid hl; have HK := Lib.hid hK
    have HIH := Lib.hid (ih (by omega))
    have hx := hB.symm
    clear hB hH hcs hf hl hK hbB hg ih
    have t1 : ¬ ((left : Int) + 1 ≤ 0) := by omega
    have t2 : ¬ ((d : Int) + 1 ≤ 0) := by omega
    have t3 : ((left : Int) + 1 - 1) = (left : Int) := by omega
    by_cases c1 : 40 < f.m.length
    · have q1 : (40 : Int) < (f.m.length : Int) := by omega
      go_enter Tryz.func15, Tryz.ntmps15
      go_wp2_with fail
      go_ret
      exact ⟨0, rfl, Nat.zero_le _, fun h => absurd h (by decide), HbB.out⟩
    have q1 : ¬ (40 : Int) < (f.m.length : Int) := by omega
    by_cases c2 : 40 < f.gn.length
    · have q2 : (40 : Int) < (f.gn.length : Int) := by omega
      go_enter Tryz.func15, Tryz.ntmps15
      go_wp2_with fail
      go_ret
      exact ⟨0, rfl, Nat.zero_le _, fun h => absurd h (by decide), HbB.out⟩
    have q2 : ¬ (40 : Int) < (f.gn.length : Int) := by omega
    by_cases c3 : 40 < f.xn.length
    · have q3 : (40 : Int) < (f.xn.length : Int) := by omega
      go_enter Tryz.func15, Tryz.ntmps15
      go_wp2_with fail
      go_ret
      exact ⟨0, rfl, Nat.zero_le _, fun h => absurd h (by decide), HbB.out⟩
    have q3 : ¬ (40 : Int) < (f.xn.length : Int) := by omega
    by_cases c4 : 40 < f.incl.length
    · have q4 : (40 : Int) < (f.incl.length : Int) := by omega
      go_enter Tryz.func15, Tryz.ntmps15
      go_wp2_with fail
      go_ret
      exact ⟨0, rfl, Nat.zero_le _, fun h => absurd h (by decide), HbB.out⟩
    have q4 : ¬ (40 : Int) < (f.incl.length : Int) := by omega
    by_cases c5 : 300 < f.name.size
    · have q5 : (300 : Int) < (f.name.size : Int) := by omega
      go_enter Tryz.func15, Tryz.ntmps15
      go_wp2_with fail
      go_ret
      exact ⟨0, rfl, Nat.zero_le _, fun h => absurd h (by decide), HbB.out⟩
    have q5 : ¬ (300 : Int) < (f.name.size : Int) := by omega
    by_cases c6 : 600 < f.value.size
    · have q6 : (600 : Int) < (f.value.size : Int) := by omega
      go_enter Tryz.func15, Tryz.ntmps15
      go_wp2_with fail
      go_ret
      exact ⟨0, rfl, Nat.zero_le _, fun h => absurd h (by decide), HbB.out⟩
    have q6 : ¬ (600 : Int) < (f.value.size : Int) := by omega
    by_cases c7 : 1000 < l.len
    · have q7 : (1000 : Int) < (l.len : Int) := by omega
      go_enter Tryz.func15, Tryz.ntmps15
      go_wp2_with fail
      go_ret
      exact ⟨0, rfl, Nat.zero_le _, fun h => absurd h (by decide), HbB.out⟩
    have q7 : ¬ (1000 : Int) < (l.len : Int) := by omega
    go_enter Tryz.func15, Tryz.ntmps15
    go_wp2_with fail
    clear hx
    go_loopw [7] (fun i wr => ∃ k : Nat, k ≤ f.m.length ∧ i = .int .i64 (k : Int) ∧ (∀ m ∈ f.m.take k, m.name.size ≤ 300 ∧ m.value.size ≤ 300) ∧ wr = B) (fun i _ => f.m.length - (intOf i).toNat)
    case atStart => exact ⟨0, Nat.zero_le _, rfl, by simp, rfl⟩
    case round =>
      obtain ⟨k, hk, rfl, hms, rfl⟩ := hrel
      by_cases hkl : k < f.m.length
      · obtain ⟨b, o, cap, hv, m, hm, p0, p1, p2⟩ := mat_at' (HF.out.m.keep (by decide) (Keeps.below HbB.out)) hkl
        simp only [Value.slice.injEq, true_and] at hv
        obtain ⟨rfl, rfl⟩ := hv
        have HMs := Lib.hid hms; have HM := Lib.hid hm
        clear hms hm
        by_cases d1 : 300 < m.name.size
        · have r1 : (300 : Int) < (m.name.size : Int) := by omega
          go_wp2_with fail
          go_ret
          exact ⟨0, rfl, Nat.zero_le _, fun h => absurd h (by decide), HbB.out⟩
        have r1 : ¬ (300 : Int) < (m.name.size : Int) := by omega
        by_cases d2 : 300 < m.value.size
        · have r2 : (300 : Int) < (m.value.size : Int) := by omega
          go_wp2_with fail
          go_ret
          exact ⟨0, rfl, Nat.zero_le _, fun h => absurd h (by decide), HbB.out⟩
        have r2 : ¬ (300 : Int) < (m.value.size : Int) := by omega
        go_wp2_with fail
        go_roundw
        case rel => exact ⟨k + 1, by omega, by go_num, take_all HMs.out HM.out ⟨by omega, by omega⟩, by first | trivial | rfl⟩
        case measure => (simp [intOf] <;> omega)
      · rw [List.take_of_length_le (by omega)] at hms
        have HMs := Lib.hid hms
        clear hms
        obtain ⟨B1, hB1⟩ : ∃ B1, B1 = wr.alloc (.cells #[.slice aG f.gn.length cG, .slice aX f.xn.length cX, .slice aI f.incl.length cI] 24) := ⟨_, rfl⟩
        have hbB1 : Below W.heap.size W B1 := by rw [hB1]; exact HbB.out.alloc HbB.out.size _
        have hg1 : B1.heap[W.heap.size]? = some (.cells cs.toArray 31 (0, 0)) := by rw [hB1]; exact blk_alloc Hg.out _
        have hg2 : B1.heap[wr.heap.size]? = some (.cells #[.slice aG f.gn.length cG, .slice aX f.xn.length cX, .slice aI f.incl.length cI] 24 (0, 0)) := by rw [hB1]; exact blk_new wr _
        rw [hsB] at hg2
        have nb : ∀ j, B1.cell? ⟨W.heap.size, j, none⟩ = cs[j]? := fun j => (blk_cell hg1 j).trans (List.getElem?_toArray ..)
        have s0 : B1.cell? ⟨W.heap.size + 1, 0, none⟩ = some (.slice aG f.gn.length cG) := blk_cell hg2 0
        have s1 : B1.cell? ⟨W.heap.size + 1, 1, none⟩ = some (.slice aX f.xn.length cX) := blk_cell hg2 1
        have s2 : B1.cell? ⟨W.heap.size + 1, 2, none⟩ = some (.slice aI f.incl.length cI) := blk_cell hg2 2
        have HbB1 := Lib.hid hbB1
        have hx1 := hB1.symm
        have Hg1 := Lib.hid hg1
        clear hB1 hbB1 hg1 hg2
        go_wp2_with fail
        clear hx1
        go_loopw [103] (fun j wq => ∃ n : Nat, n ≤ 3 ∧ j = .int .i64 (n : Int) ∧ (1 ≤ n → ∀ s ∈ f.gn, s.size ≤ 300) ∧ (2 ≤ n → ∀ s ∈ f.xn, s.size ≤ 300) ∧ (3 ≤ n → ∀ s ∈ f.incl, s.size ≤ 300) ∧ B1 = wq) (fun j _ => 3 - (intOf j).toNat)
        case atStart => exact ⟨0, by decide, rfl, fun h => by omega, fun h => by omega, fun h => by omega, rfl⟩
        case round =>
          obtain ⟨n, hn3, rfl, ag, ax, ai, hw⟩ := hrel
          subst hw
          have HAg := Lib.hid ag; have HAx := Lib.hid ax; have HAi := Lib.hid ai
          clear ag ax ai
          have hn : n = 0 ∨ n = 1 ∨ n = 2 ∨ n = 3 := by omega
          clear hn3
          rcases hn with rfl | rfl | rfl | rfl
          · go_wp2_with fail
            go_loopw [10] (fun i wq => ∃ k : Nat, k ≤ f.gn.length ∧ i = .int .i64 (k : Int) ∧ (∀ s ∈ f.gn.take k, s.size ≤ 300) ∧ B1 = wq) (fun i _ => f.gn.length - (intOf i).toNat)
            case atStart => exact ⟨0, Nat.zero_le _, rfl, by simp, rfl⟩
            case round =>
              obtain ⟨k, hk, rfl, hms, hw⟩ := hrel
              subst hw
              by_cases hkl : k < f.gn.length
              · obtain ⟨b, o, ha, s, hm, p0⟩ := str_at (HF.out.g.keep (by decide) (Keeps.below HbB1.out)) hkl
                subst ha
                have HMs2 := Lib.hid hms; have HM := Lib.hid hm
                clear hms hm
                by_cases d1 : 300 < s.size
                · have r1 : (300 : Int) < (s.size : Int) := by omega
                  go_wp2_with fail
                  go_ret
                  exact ⟨0, rfl, Nat.zero_le _, fun h => absurd h (by decide), HbB1.out⟩
                have r1 : ¬ (300 : Int) < (s.size : Int) := by omega
                go_wp2_with fail
                go_roundw
                case rel => exact ⟨k + 1, by omega, by go_num, take_all HMs2.out HM.out (by omega), by first | trivial | rfl⟩
                case measure => (simp [intOf] <;> omega)
              · rw [List.take_of_length_le (by omega)] at hms
                have HIn := Lib.hid hms
                clear hms
                go_wp2_with fail
                go_roundw
                case rel => exact ⟨1, by decide, rfl, fun _ => HIn.out, fun h => by omega, fun h => by omega, by first | trivial | rfl⟩
                case measure => (simp [intOf])
          · go_wp2_with fail
            go_loopw [10] (fun i wq => ∃ k : Nat, k ≤ f.xn.length ∧ i = .int .i64 (k : Int) ∧ (∀ s ∈ f.xn.take k, s.size ≤ 300) ∧ B1 = wq) (fun i _ => f.xn.length - (intOf i).toNat)
            case atStart => exact ⟨0, Nat.zero_le _, rfl, by simp, rfl⟩
            case round =>
              obtain ⟨k, hk, rfl, hms, hw⟩ := hrel
              subst hw
              by_cases hkl : k < f.xn.length
              · obtain ⟨b, o, ha, s, hm, p0⟩ := str_at (HF.out.x.keep (by decide) (Keeps.below HbB1.out)) hkl
                subst ha
                have HMs2 := Lib.hid hms; have HM := Lib.hid hm
                clear hms hm
                by_cases d1 : 300 < s.size
                · have r1 : (300 : Int) < (s.size : Int) := by omega
                  go_wp2_with fail
                  go_ret
                  exact ⟨0, rfl, Nat.zero_le _, fun h => absurd h (by decide), HbB1.out⟩
                have r1 : ¬ (300 : Int) < (s.size : Int) := by omega
                go_wp2_with fail
                go_roundw
                case rel => exact ⟨k + 1, by omega, by go_num, take_all HMs2.out HM.out (by omega), by first | trivial | rfl⟩
                case measure => (simp [intOf] <;> omega)
              · rw [List.take_of_length_le (by omega)] at hms
                have HIn := Lib.hid hms
                clear hms
                go_wp2_with fail
                go_roundw
                case rel => exact ⟨2, by decide, rfl, fun _ => HAg.out (by decide), fun _ => HIn.out, fun h => by omega, by first | trivial | rfl⟩
                case measure => (simp [intOf])
          · go_wp2_with fail
            go_loopw [10] (fun i wq => ∃ k : Nat, k ≤ f.incl.length ∧ i = .int .i64 (k : Int) ∧ (∀ s ∈ f.incl.take k, s.size ≤ 300) ∧ B1 = wq) (fun i _ => f.incl.length - (intOf i).toNat)
            case atStart => exact ⟨0, Nat.zero_le _, rfl, by simp, rfl⟩
            case round =>
              obtain ⟨k, hk, rfl, hms, hw⟩ := hrel
              subst hw
              by_cases hkl : k < f.incl.length
              · obtain ⟨b, o, ha, s, hm, p0⟩ := str_at (HF.out.i.keep (by decide) (Keeps.below HbB1.out)) hkl
                subst ha
                have HMs2 := Lib.hid hms; have HM := Lib.hid hm
                clear hms hm
                by_cases d1 : 300 < s.size
                · have r1 : (300 : Int) < (s.size : Int) := by omega
                  go_wp2_with fail
                  go_ret
                  exact ⟨0, rfl, Nat.zero_le _, fun h => absurd h (by decide), HbB1.out⟩
                have r1 : ¬ (300 : Int) < (s.size : Int) := by omega
                go_wp2_with fail
                go_roundw
                case rel => exact ⟨k + 1, by omega, by go_num, take_all HMs2.out HM.out (by omega), by first | trivial | rfl⟩
                case measure => (simp [intOf] <;> omega)
              · rw [List.take_of_length_le (by omega)] at hms
                have HIn := Lib.hid hms
                clear hms
                go_wp2_with fail
                go_roundw
                case rel => exact ⟨3, by decide, rfl, fun _ => HAg.out (by decide), fun _ => HAx.out (by decide), fun _ => HIn.out, by first | trivial | rfl⟩
                case measure => (simp [intOf])
          · have HG3 := Lib.hid (HAg.out (by decide)); have HX3 := Lib.hid (HAx.out (by decide)); have HI3 := Lib.hid (HAi.out (by decide))
            clear HAg HAx HAi
            go_wp2_with fail
            go_loopw [11, 2] (fun i u wq => ∃ (k y : Nat), k ≤ l.len ∧ i = .int .i64 (k : Int) ∧ u = .int .i64 (y : Int) ∧ y ≤ left ∧ (0 < y → (l.pre k).Sm ∧ (l.pre k).tot + y ≤ left) ∧ Below B1.heap.size B1 wq) (fun i _ _ => l.len - (intOf i).toNat)
            case atStart => exact ⟨0, left, Nat.zero_le _, rfl, rfl, Nat.le_refl _, fun _ => by rw [Kd.pre_zero, Kd.tot]; exact ⟨trivial, by omega⟩, Below.refl _ _⟩
            case round =>
              obtain ⟨k, y, hk, rfl, rfl, hy, hpre, hbel⟩ := hrel
              have hbw := HbB1.out.trans (hbel.mono HbB1.out.size)
              have hgq := (hbel.block W.heap.size (blk_lt Hg1.out)).trans Hg1.out
              have nq : ∀ j, wr.cell? ⟨W.heap.size, j, none⟩ = cs[j]? := fun j => (blk_cell hgq j).trans (List.getElem?_toArray ..)
              have HBw := Lib.hid hbw; have HBel := Lib.hid hbel
              clear hbw hbel hgq nb s0 s1 s2
              by_cases hkl : k < l.len
              · by_cases hy0 : y = 0
                · subst hy0
                  clear hpre
                  go_wp2_with fail
                  go_ret
                  exact ⟨0, rfl, Nat.zero_le _, fun h => absurd h (by decide), HBw.out⟩
                · have q8 : (0 : Int) < (y : Int) := by omega
                  obtain ⟨b, o, ha, n1, c, hn1, hat, hH1⟩ := kid_at (HL.out.keep (Keeps.below HBw.out)) (HK.out.keep (by decide) (Keeps.below HBw.out)) hkl
                  subst ha
                  have hps := l.pre_succ k _ hn1
                  have hl1 := hH1.length
                  obtain ⟨hp1, hp2⟩ := hpre (by omega)
                  have HAt := Lib.hid hat
                  have HCall := Lib.hid (HIH.out n1 wr c y (by omega) hH1)
                  have HPs := Lib.hid hps; have HP1 := Lib.hid hp1
                  clear hn1 hat hH1 hps hpre hp1
                  go_wp2_with (with_reducible refine wpList_loadNd rfl _ rfl b (o + k * 17) rfl c HAt.out hl1 ?_)
                  (with_reducible refine HCall.out.mono ?_)
                  rintro e W1 ⟨x, rfl, hx0, hx1, hb1⟩
                  have HX1 := Lib.hid hx1
                  have HB1 := Lib.hid (HBel.out.trans (hb1.mono HBel.out.size)); clear hb1 hx1
                  go_wp2_with fail
                  go_roundw
                  case rel => refine ⟨_, _, _, _, _, _, _, _, _, _, _, _, _, _, _, _, _, _, _, _, _, _, ?_, rfl⟩; exact ⟨k + 1, x, by omega, by first | go_num | rfl, by first | rfl | trivial | go_num, by omega, fun h => by
                    obtain ⟨e1, e2⟩ := HX1.out h
                    rw [HPs.out, Kd.Sm, Kd.tot]
                    exact ⟨⟨HP1.out, e1⟩, by omega⟩, HB1.out⟩
                  case measure => (simp [intOf] <;> omega)
              · rw [l.pre_ge k (by omega)] at hpre
                have HPre := Lib.hid hpre; clear hpre
                go_wp2_with fail
                go_ret
                exact ⟨y, rfl, by omega, fun h => by
                  obtain ⟨e1, e2⟩ := HPre.out h
                  rw [Nd.Sm, Nd.tot]
                  exact ⟨⟨⟨by omega, HMs.out, by omega, HG3.out, by omega, HX3.out, by omega, HI3.out, by omega, by omega⟩, e1⟩, by omega⟩, HBw.out⟩
theorem few_calls (n : Nd) (W : World) (cs : List Value) (hH : n.Held W Any cs) : Calls Tryz.prog 6 #[.agg cs.toArray] W (fun e W' => ∃ x : Bool, e = .returned (.bool x) ∧ (x = true → n.Sm ∧ n.tot ≤ 1000) ∧ Below W.heap.size W W') := by
  have hl := hH.length
  have hb0 : Below W.heap.size W (W.alloc (.cells cs.toArray 31)) := (Below.refl _ _).alloc (Nat.le_refl _) _
  have HC := Lib.hid (budget_calls 100 (by decide) n _ cs 1000 (by decide) (hH.below hb0))
  have HB := Lib.hid hb0
  clear hH hb0
  go_enter Tryz.func6, Tryz.ntmps6
  go_wp2_with (with_reducible refine wpList_loadNd rfl _ rfl W.heap.size 0 rfl cs (range_blk (blk_new W _)) hl ?_)
  refine HC.out.mono ?_
  rintro e W1 ⟨x, rfl, hx0, hx1, hb1⟩
  have HX := Lib.hid hx1
  have HB1 := Lib.hid (HB.out.trans (hb1.mono HB.out.size)); clear hb1 hx1
  go_wp2_with fail
  go_ret
  exact ⟨decide (0 < x), rfl, fun h => by
    have h' : 0 < x := by simpa using h
    obtain ⟨e1, e2⟩ := HX.out h'
    exact ⟨e1, by omega⟩, HB1.out⟩
end Go.Proofs.YtnbgigdloehbjaaGreatDoor.Ir
