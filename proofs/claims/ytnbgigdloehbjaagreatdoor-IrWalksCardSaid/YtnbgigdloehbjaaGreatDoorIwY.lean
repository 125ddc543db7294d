/-
  Within a fence: a node is read, laid into a new variable.
  All nodes of a plan, kids first (ir.Walk): the iterator.
  What the document's equality of plans leans on: values, texts, matchers, groupings that are the same; constants that are the same.
  Constants that are the same, by the document.
  Plans of the document that are equal field by field (equal of isobarlaw12).
  A plan's nodes are just those that are wanted (walked of isobarlaw12).
  Each node of a plan, kids first, with its depth; the walk may be left early, and gone again (IrWalks): its walk.
-/
import Derived.Test.YtnbgigdloehbjaaGreatDoorIwX
import Derived.Shelf.Abstract
import Derived.Shelf.RegionOpen
import Derived.WalkKit
import Derived.OwnWalkIn
import Derived.TacticsInMore
import Derived.LoopNIn
import Derived.LoopIn
import Derived.Test.YtnbgigdloehbjaaGreatDoorIrVx
import Derived.Deep.RegionHeld3
import Derived.Test.YtnbgigdloehbjaaGreatDoorIrZ
import Derived.Test.YtnbgigdloehbjaaGreatDoorIsA
namespace Go.Proofs.YtnbgigdloehbjaaGreatDoor.Ir
open Go Go.RowKit Go.Proofs.YtnbgigdloehbjaaGreatDoor.Rg Go.Proofs.YtnbgigdloehbjaaGreatDoor.Ma
set_option maxHeartbeats 16000000
set_option maxRecDepth 100000

section
variable {d : TypeDesc} {F : Fence} {m : Nat} {ops : Array Oper} {rest : List Oper} {op : Oper} {a : Act} {w : World} {Q : Exit → Act → World → Prop}
theorem semAt_load {T : TypeId} {x : Operand} (ho : op.op = .load T x) (r : Option Nat) (ρ : Operand → Value) : op.semAt r ρ = execOp ρ op := by
  cases r with
  | none => rfl
  | some l => exact Oper.semAt_some l ρ op (fun c h => by rw [ho] at h; cases h)
theorem semAt_store {T : TypeId} {x y : Operand} (ho : op.op = .store T x y) (r : Option Nat) (ρ : Operand → Value) : op.semAt r ρ = execOp ρ op := by
  cases r with
  | none => rfl
  | some l => exact Oper.semAt_some l ρ op (fun c h => by rw [ho] at h; cases h)
theorem semAt_alloc {T : TypeId} (ho : op.op = .alloc T) (r : Option Nat) (ρ : Operand → Value) : op.semAt r ρ = execOp ρ op := by
  cases r with
  | none => rfl
  | some l => exact Oper.semAt_some l ρ op (fun c h => by rw [ho] at h; cases h)
theorem wpIn_loadNdS (T : TypeId) (hT : Tryz.prog.underlying T = some d) (hd : d.isRow = true) (hz : (Tryz.prog.info? T).map (·.size) = some 17) {K : Act → World → Prop} (x : Operand) (ho : op.op = .load T x)
    (b o : Nat) (hx : a.eval x = .pointer (some ⟨b, o, none⟩)) (c : List Value) (hc : w.rangeAt b o c) (hl : c.length = 17)
    (h : K (a.put op.dst (.agg c.toArray)) w) : op.wpIn F m Tryz.prog a w K Q := by
  refine ⟨fun f hf => by simp [Oper.about, ho] at hf, ?_⟩
  rw [semAt_load ho]
  unfold execOp
  simp only [ho, hx, Instr.loadAt, Instr.sureAddr, Sem.run_bind, Sem.run_pure, Result.andThen_ok, run_loadVar_mid w b o T c d hc hT hd (by rw [hz, hl])]
  exact h
theorem wpListIn_loadNdS (T : TypeId) (hT : Tryz.prog.underlying T = some d) (hd : d.isRow = true) (hz : (Tryz.prog.info? T).map (·.size) = some 17) (hgd : op.guard = none) (x : Operand) (ho : op.op = .load T x)
    (b o : Nat) (hx : a.eval x = .pointer (some ⟨b, o, none⟩)) (c : List Value) (hc : w.rangeAt b o c) (hl : c.length = 17)
    (h : wpListIn F m Tryz.prog ops Q rest (a.put op.dst (.agg c.toArray)) w) : wpListIn F m Tryz.prog ops Q (op :: rest) a w :=
  wpListIn_plain hgd fun _ hK => wpIn_loadNdS T hT hd hz x ho b o hx c hc hl (hK _ _ h)
theorem wpListIn_loadNd (hgd : op.guard = none) (x : Operand) (ho : op.op = .load 31 x)
    (b o : Nat) (hx : a.eval x = .pointer (some ⟨b, o, none⟩)) (c : List Value) (hc : w.rangeAt b o c) (hl : c.length = 17)
    (h : wpListIn F m Tryz.prog ops Q rest (a.put op.dst (.agg c.toArray)) w) : wpListIn F m Tryz.prog ops Q (op :: rest) a w :=
  wpListIn_loadNdS _ Tryz.underlying31 rfl sizeNd hgd x ho b o hx c hc hl h
theorem wpListIn_loadRd (hgd : op.guard = none) (x : Operand) (ho : op.op = .load 43 x)
    (b o : Nat) (hx : a.eval x = .pointer (some ⟨b, o, none⟩)) (c : List Value) (hc : w.rangeAt b o c) (hl : c.length = 17)
    (h : wpListIn F m Tryz.prog ops Q rest (a.put op.dst (.agg c.toArray)) w) : wpListIn F m Tryz.prog ops Q (op :: rest) a w :=
  wpListIn_loadNdS _ Tryz.underlying43 rfl R.sizeNd hgd x ho b o hx c hc hl h
theorem wpListIn_newNd {o1 o2 : Oper} (hg1 : o1.guard = none) (hg2 : o2.guard = none) (d : Nat) (y : Operand)
    (h1 : o1.op = .alloc 31) (hd1 : o1.dst = some d) (h2 : o2.op = .store 31 (.tmp d) y) (hd2 : o2.dst = none) (c : List Value)
    (hx : (a.put (some d) (.pointer (some ⟨w.heap.size, 0, none⟩))).eval (.tmp d) = .pointer (some ⟨w.heap.size, 0, none⟩)) (hy : (a.put (some d) (.pointer (some ⟨w.heap.size, 0, none⟩))).eval y = .agg c.toArray) (hl : c.length = 17) (hone : ∀ u ∈ c, u.oneCell' = true)
    (h : wpListIn F m Tryz.prog ops Q rest (a.put (some d) (.pointer (some ⟨w.heap.size, 0, none⟩))) (w.alloc (.cells c.toArray 31))) : wpListIn F m Tryz.prog ops Q (o1 :: o2 :: rest) a w := by
  refine wpListIn_plain hg1 fun K hK => ?_
  refine ⟨fun f hf => by simp [Oper.about, h1] at hf, ?_⟩
  rw [semAt_alloc h1]
  have he : (execOp a.eval o1).run Tryz.prog w = .ok (.value (.pointer (some ⟨w.heap.size, 0, none⟩))) (w.alloc (.cells zcl.toArray 31)) := by
    unfold execOp
    have hz := zeroNd w
    simp [h1, Instr.alloc, Sem.run_bind, hz]
    rfl
  rw [he]
  show K (a.put o1.dst _) _
  rw [hd1]
  refine hK _ _ (wpListIn_plain hg2 fun K2 hK2 => ?_)
  refine ⟨fun f hf => by simp [Oper.about, h2] at hf, ?_⟩
  rw [semAt_store h2]
  unfold execOp
  simp only [h2, hx, hy, Instr.storeAt, Instr.sureAddr, Sem.run_bind, Sem.run_pure, Result.andThen_ok, run_storeVar_new (P := Tryz.prog) w 31 zcl.toArray c.toArray (by rw [sizeNd]; simp [hl]) (by simp [hl, zcl]) (all_oneCell_toArray hone)]
  show K2 ((a.put (some d) (.pointer (some ⟨w.heap.size, 0, none⟩))).put o2.dst undef) _
  rw [hd2]
  exact hK2 _ _ h
end
end Go.Proofs.YtnbgigdloehbjaaGreatDoor.Ir
namespace Go.Proofs.YtnbgigdloehbjaaGreatDoor.Ir
open Go Go.RowKit Go.Shelf Go.Proofs.YtnbgigdloehbjaaGreatDoor.Rg Go.Proofs.YtnbgigdloehbjaaGreatDoor.Ma Go.Proofs.YtnbgigdloehbjaaGreatDoor.Rng
set_option maxHeartbeats 16000000
set_option maxRecDepth 100000
attribute [local go_sem] Oper.semAt_some

theorem room_none (k : Nat) : Fence.wide.room k := fun d h => by cases h
theorem RoundIn.any {m m' : Nat} {P : Program} {l : Nat} {f : FuncId} {tmps : Array Value} {assign body : Code} {w : World} {R : Ending → World → Prop}
    (h : RoundIn Fence.wide m P l f tmps assign body w R) : RoundIn Fence.wide m' P l f tmps assign body w R := ⟨h.1, fun c cs _ => h.2 c cs (room_none _)⟩
theorem YieldAt.any {m : Nat} (m' : Nat) {P : Program} {l : Nat} {args : Array Value} {W : World} {R : Ending → World → Prop} (h : YieldAt Fence.wide m P l args W R) : YieldAt Fence.wide m' P l args W R := by
  obtain ⟨fn, tmps, assign, body, hy, hR⟩ := h
  exact ⟨fn, tmps, assign, body, hy, RoundIn.any hR⟩
/-- From block lo on nothing that was there turns, but for block l. -/
structure Kept (lo l : Nat) (W W' : World) : Prop where
  size : W.heap.size ≤ W'.heap.size
  block : ∀ b, b < W.heap.size → lo ≤ b → b ≠ l → W'.heap[b]? = W.heap[b]?
theorem Kept.refl (lo l : Nat) (W : World) : Kept lo l W W := ⟨Nat.le_refl _, fun _ _ _ _ => rfl⟩
theorem Kept.trans {lo l : Nat} {A B C : World} (h : Kept lo l A B) (k : Kept lo l B C) : Kept lo l A C := ⟨Nat.le_trans h.size k.size, fun b h1 h2 h3 => (k.block b (by have := h.size; omega) h2 h3).trans (h.block b h1 h2 h3)⟩
theorem Kept.of {lo l : Nat} {A B : World} (h : Below A.heap.size A B) : Kept lo l A B := ⟨h.size, fun b hb _ _ => h.block b hb⟩
def Mid (lo l : Nat) : Nat → Prop := fun b => lo ≤ b ∧ b ≠ l
theorem Kept.keeps {lo l : Nat} {A B : World} (h : Kept lo l A B) : Keeps A B (Mid lo l) (Mid lo l) := fun b hb hlt => ⟨h.block b hlt hb.1 hb.2, hb⟩
/-- What a round says. -/
def RoundSays (lo l : Nat) (J Jx : List (Nat × Nd) → World → Prop) (pre : List (Nat × Nd)) (x : Nat × Nd) (W : World) (e : Ending) (W' : World) : Prop :=
  (e = .returned (.bool true) ∧ J (pre ++ [x]) W' ∧ Kept lo l W W') ∨ (e = .returned (.bool false) ∧ Jx (pre ++ [x]) W')
def WalkSays (lo l : Nat) (J Jx : List (Nat × Nd) → World → Prop) (pre xs : List (Nat × Nd)) (W : World) (e : Ending) (W' : World) : Prop :=
  (e = .returned (.bool true) ∧ J (pre ++ xs) W' ∧ Kept lo l W W') ∨ (e = .returned (.bool false) ∧ ∃ q, q <+: xs ∧ Jx (pre ++ q) W')
theorem lst_le : ∀ (l : Kd) (k d : Nat) (n : Nd), l.kids[k]? = some n → (l.pre k).lsts d ++ n.lst d <+: l.lsts d
  | .nil, k, d, n, h => by simp [Kd.kids] at h
  | .snoc l m, k, d, n, h => by
    have hl := l.kids_length
    rw [Kd.kids] at h
    rw [Kd.lsts, Kd.pre]
    by_cases hk : k < l.kids.length
    · rw [List.getElem?_append_left hk] at h
      rw [if_pos (by omega)]
      exact (lst_le l k d n h).trans (List.prefix_append _ _)
    · rw [List.getElem?_append_right (by omega)] at h
      have hk0 : k = l.len := by
        have := (List.getElem?_eq_some_iff.1 h).1
        simp at this; omega
      subst hk0
      rw [hl, Nat.sub_self] at h
      simp at h
      subst h
      rw [if_pos (Nat.le_refl _), Kd.pre_len]
      exact List.prefix_refl _
theorem walk_calls (lo l : Nat) (J Jx : List (Nat × Nd) → World → Prop) (full : List (Nat × Nd)) (hJ : ∀ s A B, J s A → Below A.heap.size A B → J s B)
    (hY : ∀ m pre d n c W, J pre W → pre ++ [(d, n)] <+: full → n.Held W (fun b => b ≠ l) c → YieldAt Fence.wide m Tryz.prog l #[.int .i64 (d : Nat), .agg c.toArray] W (RoundSays lo l J Jx pre (d, n) W)) :
    ∀ (N : Nat) (n : Nd), n.tot ≤ N → N ≤ 1000 → n.Sm → ∀ (W : World) (c : List Value) (d : Nat) (pre : List (Nat × Nd)), lo ≤ W.heap.size → l < W.heap.size → n.Held W (Mid lo l) c → J pre W → pre ++ n.lst d <+: full → d + n.tot ≤ 2000 →
      Calls Tryz.prog 41 #[.agg c.toArray, .int .i64 (d : Int), .func (.yield l) #[] #[]] W (WalkSays lo l J Jx pre (n.lst d) W) := by
  intro N
  induction N with
  | zero => intro n hn; have := n.tot_pos; omega
  | succ N ih =>
    rintro ⟨f, l1⟩ hn hN hSm W cs d pre hlo hlW hH h0 hpre hd
    have hsm := hSm
    rw [Nd.tot] at hn hd
    rw [Nd.Sm] at hSm
    obtain ⟨_, hSl⟩ := hSm
    obtain ⟨vM, vG, vX, vI, aK, cK, lk, hcs, hf, hl, hK⟩ := hH.open
    have hc17 := hH.length
    have hlt2 := l1.len_tot
    have k16 : cs[16]? = some (.slice aK l1.len cK) := by rw [hcs]; rfl
    obtain ⟨B, hB⟩ : ∃ B, B = W.alloc (.cells cs.toArray 31) := ⟨_, rfl⟩
    have hg : B.heap[W.heap.size]? = some (.cells cs.toArray 31 (0, 0)) := by rw [hB]; exact blk_new W _
    have hsB : B.heap.size = W.heap.size + 1 := by rw [hB]; simp
    have hbB : Below W.heap.size W B := by rw [hB]; exact (Below.refl _ _).alloc (Nat.le_refl _) _
    have hJB := hJ _ _ _ h0 hbB
    have hk0 : Kept lo l W B := Kept.of hbB
    have hHB := Nd.Held.keep hk0.keeps _ hH
    have na : ∀ j, B.cell? ⟨W.heap.size, j, none⟩ = cs[j]? := fun j => (blk_cell hg j).trans (List.getElem?_toArray ..)
    have HJB := Lib.hid hJB; have Hg := Lib.hid hg; have HIH := Lib.hid ih; have HC17 := Lib.hid hc17; have HK0 := Lib.hid hk0; have HHB := Lib.hid hHB
    have HL := Lib.hid (Kd.Held.keep hk0.keeps _ hl); have HKr := Lib.hid (hK.keep (by decide) hk0.keeps)
    have HSl := Lib.hid hSl; have HSm := Lib.hid hsm; have HPre := Lib.hid hpre; have HY := Lib.hid hY; have HJ := Lib.hid hJ
    have hx := hB.symm
    clear hB hH hcs hf hl hK hg ih hJB hk0 hHB hSl hpre hY hJ h0 hbB hc17 hsm
    refine (callsIn_wide (n := 5)).1 ?_
    refine callsIn_of_wp Tryz.func41 rfl trivial ?_ rfl
    simp only [Tryz.ntmps41, List.size_toArray, List.length_cons, List.length_nil, Nat.reduceAdd, Nat.reduceSub, Array.replicate_succ, Array.replicate_zero, List.push_toArray, List.append_toArray, List.nil_append, List.cons_append]
    gi_wp2_with fail
    clear hx
    gi_loopw [12] (fun i wr => ∃ k : Nat, k ≤ l1.len ∧ i = .int .i64 (k : Int) ∧ J (pre ++ (l1.pre k).lsts (d + 1)) wr ∧ Kept lo l B wr) (fun i _ => l1.len - (intOf i).toNat)
    case atStart => exact ⟨0, Nat.zero_le _, rfl, by rw [Kd.pre_zero, Kd.lsts, List.append_nil]; exact HJB.out, Kept.refl _ _ _⟩
    case round =>
      obtain ⟨k, hk, rfl, hJk, hkp⟩ := hrel
      have hgb := (hkp.block W.heap.size (by omega) hlo (by omega)).trans Hg.out
      have hss := hkp.size
      have hpt := l1.tot_pre k
      have HJk := Lib.hid hJk; have HKp := Lib.hid hkp; have Hgb := Lib.hid hgb
      clear hJk hkp hgb HJB na
      by_cases hkl : k < l1.len
      · obtain ⟨b, o, ha, n1, c, hn1, hat, hH1⟩ := kid_at (Kd.Held.keep HKp.out.keeps _ HL.out) (HKr.out.keep (by decide) HKp.out.keeps) hkl
        subst ha
        have hps := l1.pre_succ k _ hn1
        have hpt2 := l1.tot_pre (k + 1)
        have hps2 : (l1.pre (k + 1)).tot = (l1.pre k).tot + n1.tot := by rw [hps, Kd.tot]
        have hSm1 := HSl.out.kid hn1
        have hl1 := hH1.length
        have HOne := Lib.hid hH1.one
        have HAt := Lib.hid hat
        have hb4 : Below wr.heap.size wr (wr.alloc (.cells c.toArray 31)) := (Below.refl _ _).alloc (Nat.le_refl _) _
        have hH4 := Nd.Held.keep (Kept.of (lo := lo) (l := l) hb4).keeps _ hH1
        have hpre1 : pre ++ (l1.pre k).lsts (d + 1) ++ n1.lst (d + 1) <+: full := by
          refine List.IsPrefix.trans ?_ HPre.out
          rw [List.append_assoc, Nd.lst, List.prefix_append_right_inj]
          exact (lst_le l1 k (d + 1) n1 hn1).trans (List.prefix_append _ _)
        have hc := HIH.out n1 (by omega) (by omega) hSm1 (wr.alloc (.cells c.toArray 31)) c (d + 1) (pre ++ (l1.pre k).lsts (d + 1)) (by simp; omega) (by simp; omega) hH4 (HJ.out _ _ _ HJk.out hb4) hpre1 (by omega)
        rw [show ((d + 1 : Nat) : Int) = (d : Int) + 1 from rfl] at hc
        have HCall := Lib.hid hc; have HPs := Lib.hid hps; have HHold := Lib.hid hH1
        have HLe := Lib.hid (lst_le l1 k (d + 1) n1 hn1)
        clear hc hn1 hat hH1 hps hpre1 hH4 hSm1
        gi_wp2_with (first | (with_reducible refine wpListIn_loadNd rfl _ rfl b (o + k * 17) rfl c HAt.out hl1 ?_) | (with_reducible refine wpListIn_newNd rfl rfl 8 (.tmp 15) rfl rfl rfl rfl c rfl rfl hl1 HOne.out ?_) | (with_reducible refine wpListIn_loadNd rfl _ rfl wr.heap.size 0 rfl c (range_blk (blk_new wr _)) hl1 ?_))
        refine ⟨trivial, ?_⟩
        gi_at_call 41
        refine (callsIn_wide.2 HCall.out).mono ?_
        rintro q w2 (⟨rfl, hJ2, hk2⟩ | ⟨rfl, qs, hq, hx2⟩)
        · have HJ2 := Lib.hid hJ2; have HK2 := Lib.hid hk2
          clear hJ2 hk2
          gi_wp2_with fail
          go_roundw
          case measure => (simp [intOf] <;> omega)
          case rel =>
            have h3 := HJ2.out
            rw [List.append_assoc, show (l1.pre k).lsts (d + 1) ++ n1.lst (d + 1) = (l1.pre (k + 1)).lsts (d + 1) by rw [HPs.out, Kd.lsts]] at h3
            exact ⟨k + 1, by omega, by go_num, h3, HKp.out.trans ((Kept.of hb4).trans HK2.out)⟩
        · gi_wp2_with fail
          go_ret
          refine .inr ⟨rfl, (l1.pre k).lsts (d + 1) ++ qs, ?_, by rw [← List.append_assoc]; exact hx2⟩
          rw [Nd.lst]
          exact (((List.prefix_append_right_inj _).2 hq).trans HLe.out).trans (List.prefix_append _ _)
      · have hz : l1.pre k = l1 := l1.pre_ge k (by omega)
        rw [hz] at HJk
        have hHn := Nd.Held.keep HKp.out.keeps _ HHB.out
        have HT := Lib.hid (Twin_calls 1000 (.mk f l1) (by rw [Nd.tot]; omega) (by decide) HSm.out wr cs hHn.any)
        have HC := HC17.out
        gi_wp2_with (with_reducible refine wpListIn_loadNd rfl _ rfl W.heap.size 0 rfl cs (range_blk Hgb.out) HC17.out ?_)
        refine ⟨trivial, ?_⟩
        gi_at_call 39
        refine (callsIn_wide.2 HT.out).mono ?_
        rintro q w2 ⟨c2, rfl, hn2, hb2⟩
        have hp2 : pre ++ l1.lsts (d + 1) ++ [(d, Nd.mk f l1)] <+: full := by
          have := HPre.out
          rw [Nd.lst, ← List.append_assoc] at this
          exact this
        obtain ⟨fn, tmps, assign, body, hy, hR⟩ := YieldAt.any 3 (HY.out 3 (pre ++ l1.lsts (d + 1)) d (.mk f l1) c2 w2 (HJ.out _ _ _ HJk.out hb2) hp2 (Nd.Held.keep (fun b hb _ => ⟨rfl, by have h := hb; unfold From at h; have := HKp.out.size; omega⟩) _ hn2))
        have HR := Lib.hid hR
        clear hR hn2 hp2 hHn
        gi_wp2_with fail
        refine (RoundIn.any HR.out).mono ?_
        rintro e w3 (⟨rfl, hJ3, hk3⟩ | ⟨rfl, hx3⟩)
        · gi_wp2_with fail
          go_ret
          refine .inl ⟨rfl, ?_, HK0.out.trans (HKp.out.trans ((Kept.of hb2).trans hk3))⟩
          rw [Nd.lst, ← List.append_assoc]
          exact hJ3
        · gi_wp2_with fail
          go_ret
          refine .inr ⟨rfl, _, List.prefix_refl _, ?_⟩
          rw [Nd.lst, ← List.append_assoc]
          exact hx3
/-- What ir.Walk hands back. -/
def isGiven (full : List (Nat × Nd)) (l : Nat) (pre : List (Nat × Nd)) (x : Nat × Nd) (args : Array Value) (W : World) : Prop := ∃ c : List Value, args = #[.int .i64 (x.1 : Nat), .agg c.toArray] ∧ x.2.Held W (fun b => b ≠ l) c ∧ pre ++ [x] <+: full
theorem walk1_gives (n : Nd) (hn : n.tot ≤ 1000) (hSm : n.Sm) (lo bx : Nat) (w : World) (c : List Value) (hlo : lo ≤ bx) (hbx : w.heap[bx]? = some (.cells c.toArray 31 (0, 0))) (hH : n.Held w (fun b => lo ≤ b) c) (m : Nat) :
    Gives Fence.wide m Tryz.prog 40 #[.pointer (some ⟨bx, 0, none⟩)] 2 (isGiven (n.lst 1)) (fun l => Kept lo l) (fun xs => xs = n.lst 1) (fun pre => pre <+: n.lst 1) w := by
  intro l J Jx W hW hwl hlW hJ hJx hY h0
  have hlw := blk_lt hbx
  have hc17 := hH.length
  have hHW : n.Held W (Mid lo l) c := Nd.Held.keep (fun b hb hlt => ⟨hW.block b hlt, hb, by omega⟩) _ hH
  have hbW : W.heap[bx]? = some (.cells c.toArray 31 (0, 0)) := (hW.block bx hlw).trans hbx
  have HC := Lib.hid (walk_calls lo l J Jx (n.lst 1) hJ (fun m pre d k c' W' hj hp hk => hY m pre (d, k) _ W' hj rfl ⟨c', rfl, hk, hp⟩) 1000 n hn (by decide) hSm W c 1 [] (by have := hW.size; omega) hlW hHW h0 (by rw [List.nil_append]; exact List.prefix_refl _) (by omega))
  have HbW := Lib.hid hbW
  clear hH hHW hbW hbx hY hJ hJx h0
  refine callsIn_of_wp Tryz.func40 rfl trivial ?_ rfl
  simp only [Tryz.ntmps40, List.size_toArray, List.length_cons, List.length_nil, Nat.reduceAdd, Nat.reduceSub, Array.replicate_succ, Array.replicate_zero, List.push_toArray, List.append_toArray, List.nil_append, List.cons_append]
  gi_wp2_with (with_reducible refine wpListIn_loadNd rfl _ rfl bx 0 rfl c (range_blk HbW.out) hc17 ?_)
  refine ⟨trivial, ?_⟩
  refine ⟨fun h => (by cases h), ?_⟩
  gi_at_call 41
  refine (callsIn_wide.2 HC.out).mono ?_
  rintro q w2 (⟨rfl, hJ2, hk2⟩ | ⟨rfl, qs, hq, hx2⟩)
  · gi_wp2_with fail
    go_end0
    exact ⟨⟨_, rfl⟩, .inl ⟨_, rfl, hJ2⟩⟩
  · gi_wp2_with fail
    go_end0
    exact ⟨⟨_, rfl⟩, .inr ⟨qs, hq, hx2⟩⟩
/-- ir.Walk: the plan is told apart; a function over it comes back. -/
theorem Walk_calls (n : Nd) (hn : n.tot ≤ 1000) (hSm : n.Sm) (W : World) (cs : List Value) (hH : n.Held W Any cs) : Calls Tryz.prog 20 #[.agg cs.toArray] W fun e W' =>
    ∃ (bx : Nat) (c : List Value), e = .returned (.func (.func 40) #[] #[.pointer (some ⟨bx, 0, none⟩)]) ∧ W.heap.size ≤ bx ∧ W'.heap[bx]? = some (.cells c.toArray 31 (0, 0)) ∧ n.Held W' (fun b => W.heap.size ≤ b) c ∧ Below W.heap.size W W' := by
  have hc17 := hH.length
  have hb0 : Below W.heap.size W (W.alloc (.cells cs.toArray 31)) := (Below.refl _ _).alloc (Nat.le_refl _) _
  have HT := Lib.hid (Twin_calls 1000 n hn (by decide) hSm (W.alloc (.cells cs.toArray 31)) cs (hH.below hb0))
  have hg := blk_new W (.cells cs.toArray 31)
  have Hg := Lib.hid hg; have Hb0 := Lib.hid hb0
  clear hH hg hb0
  go_enter Tryz.func20, Tryz.ntmps20
  go_wp2_with (with_reducible refine wpList_loadNd rfl _ rfl W.heap.size 0 rfl cs (range_blk Hg.out) hc17 ?_)
  (with_reducible refine HT.out.mono ?_)
  rintro e w2 ⟨c2, rfl, hn2, hb2⟩
  have hg2 := (hb2.block W.heap.size (by simp)).trans Hg.out
  have hl2 := hn2.length
  have HOne := Lib.hid hn2.one
  have Hg2 := Lib.hid hg2; have Hn2 := Lib.hid hn2; have Hb2 := Lib.hid hb2
  clear hg2 hn2 hb2
  go_wp2_with (with_reducible refine wpList_setNd rfl _ _ rfl W.heap.size cs c2 Hg2.out hc17 rfl rfl hl2 HOne.out ?_)
  go_ret
  refine ⟨W.heap.size, c2, rfl, Nat.le_refl _, setRow_heap _ _ _ _ _ _ Hg2.out, Nd.Held.keep (fun b hb _ => ⟨setRow_other _ _ _ _ (by have h := hb; unfold From at h; simp at h; omega), by have h := hb; unfold From at h; simp at h; omega⟩) _ Hn2.out, below_row (Hb0.out.trans (Hb2.out.mono (by simp))) (Nat.le_refl _) _⟩
end Go.Proofs.YtnbgigdloehbjaaGreatDoor.Ir
namespace Go.Proofs.YtnbgigdloehbjaaGreatDoor.Ir.R
open Go Go.RowKit Go.Proofs.YtnbgigdloehbjaaGreatDoor.Rg Go.Proofs.YtnbgigdloehbjaaGreatDoor.Ma
set_option maxHeartbeats 8000000
set_option maxRecDepth 100000

theorem run_frombits (n : Int) (w : World) : (callFunc 80 #[.int .u64 n]).run Tryz.prog w = .ok (.value (.float .f64 n.toNat)) w := by
  rw [run_callFunc_standIn (e := Extern.MathFloatBits.float64frombits) Tryz.func80 (by kernel_rfl) (by kernel_rfl) (by kernel_rfl) (by kernel_rfl)]
  rfl
/-- A value's one form. -/
def canonR (x : Nat) : Nat := if FloatKind.f64.format.order x x = some .eq then x else 9221120237041090561
theorem canon_calls (x : Nat) (w : World) : Calls Tryz.prog 90 #[.float .f64 x] w fun e w' => e = .returned (.float .f64 (canonR x)) ∧ w = w' := by
  have hx := run_frombits
  unfold canonR
  obtain ⟨o, ho⟩ : ∃ o, FloatKind.f64.format.order x x = o := ⟨_, rfl⟩
  rw [ho]
  cases o with
  | none =>
    rw [if_neg (by decide)]
    go_enter Tryz.func90, Tryz.ntmps90
    go_wp2
    go_ret
    exact ⟨rfl, rfl⟩
  | some o =>
    cases o with
    | eq =>
      rw [if_pos rfl]
      go_enter Tryz.func90, Tryz.ntmps90
      go_wp2
      go_ret
      exact ⟨rfl, rfl⟩
    | lt =>
      rw [if_neg (by decide)]
      go_enter Tryz.func90, Tryz.ntmps90
      go_wp2
      go_ret
      exact ⟨rfl, rfl⟩
    | gt =>
      rw [if_neg (by decide)]
      go_enter Tryz.func90, Tryz.ntmps90
      go_wp2
      go_ret
      exact ⟨rfl, rfl⟩
theorem bits_calls (x : Nat) (w : World) : Calls Tryz.prog 106 #[.float .f64 x] w fun e w' => e = .returned (.int .u64 (canonR x : Int)) ∧ w = w' := by
  have hx := run_tobits
  go_enter Tryz.func106, Tryz.ntmps106
  go_wp2_with ((with_reducible refine (canon_calls _ _).mono ?_); rintro e w' ⟨rfl, rfl⟩)
  go_ret
  exact ⟨rfl, rfl⟩
theorem sameF_calls (a : Nat) (w : World) : Calls Tryz.prog 88 #[.float .f64 a, .float .f64 a] w fun e w' => e = .returned (.bool true) ∧ w = w' := by
  have h1 : ((canonR a : Int) == (canonR a : Int)) = true := beq_self_eq_true _
  go_enter Tryz.func88, Tryz.ntmps88
  go_wp2_with ((with_reducible refine (bits_calls _ _).mono ?_); rintro e w' ⟨rfl, rfl⟩)
  go_ret
  exact ⟨rfl, rfl⟩
theorem texts_calls (v1 v2 : Value) (l : List ByteArray) (W : World) (h1 : Row W Any v1 l.length 1 (scells l)) (h2 : Row W Any v2 l.length 1 (scells l)) (hl : l.length ≤ 100000) :
    Calls Tryz.prog 73 #[v1, v2] W (RetB (.bool true) W) := by
  obtain ⟨_, a1, cap1, rfl, _⟩ := id h1
  obtain ⟨_, a2, cap2, rfl, _⟩ := id h2
  have H1 := Lib.hid h1; have H2 := Lib.hid h2; clear h1 h2
  go_enter Tryz.func73, Tryz.ntmps73
  go_wp2_with fail
  go_loopw [5] (fun i wr => ∃ k : Nat, k ≤ l.length ∧ i = .int .i64 (k : Int) ∧ Below W.heap.size W wr) (fun i _ => l.length - (intOf i).toNat)
  case atStart => exact ⟨0, Nat.zero_le _, rfl, Below.refl _ _⟩
  case round =>
    obtain ⟨k, hk, rfl, hbel⟩ := hrel
    by_cases hkl : k < l.length
    · obtain ⟨b1, o1, ha1, t1, ht1, hc1⟩ := str_at (H1.out.keep (by decide) (Keeps.below hbel)) hkl
      obtain ⟨b2, o2, ha2, t2, ht2, hc2⟩ := str_at (H2.out.keep (by decide) (Keeps.below hbel)) hkl
      subst ha1 ha2
      have ht : t2 = t1 := by rw [ht1] at ht2; exact (Option.some.inj ht2).symm
      subst ht
      clear ht1 ht2
      have HBel := Lib.hid hbel; clear hbel
      go_wp2_with fail
      go_quiet (fail)
      go_wp2_with fail
      go_roundw
      case rel => exact ⟨k + 1, by omega, by go_num, below_drewN HBel.out _⟩
      case measure => (simp [intOf] <;> omega)
    · have HBel := Lib.hid hbel; clear hbel
      go_wp2_with fail
      go_ret
      exact ⟨rfl, HBel.out⟩
theorem matchers_calls (v1 v2 : Value) (l : List Mr) (W : World) (h1 : Row W Any v1 l.length 3 (mcells l)) (h2 : Row W Any v2 l.length 3 (mcells l)) (hl : l.length ≤ 100000) :
    Calls Tryz.prog 43 #[v1, v2] W (RetB (.bool true) W) := by
  obtain ⟨_, a1, cap1, rfl, _⟩ := id h1
  obtain ⟨_, a2, cap2, rfl, _⟩ := id h2
  have H1 := Lib.hid h1; have H2 := Lib.hid h2; clear h1 h2
  go_enter Tryz.func43, Tryz.ntmps43
  go_wp2_with fail
  go_loopw [5] (fun i wr => ∃ k : Nat, k ≤ l.length ∧ i = .int .i64 (k : Int) ∧ Below W.heap.size W wr) (fun i _ => l.length - (intOf i).toNat)
  case atStart => exact ⟨0, Nat.zero_le _, rfl, Below.refl _ _⟩
  case round =>
    obtain ⟨k, hk, rfl, hbel⟩ := hrel
    by_cases hkl : k < l.length
    · obtain ⟨b1, o1, c1, ha1, t1, ht1, p0, p1, p2⟩ := mat_at (H1.out.keep (by decide) (Keeps.below hbel)) hkl
      obtain ⟨b2, o2, c2, ha2, t2, ht2, q0, q1, q2⟩ := mat_at (H2.out.keep (by decide) (Keeps.below hbel)) hkl
      simp only [Value.slice.injEq, true_and] at ha1 ha2
      obtain ⟨rfl, rfl⟩ := ha1
      obtain ⟨rfl, rfl⟩ := ha2
      have ht : t2 = t1 := by rw [ht1] at ht2; exact (Option.some.inj ht2).symm
      subst ht
      clear ht1 ht2
      have HBel := Lib.hid hbel; clear hbel
      go_wp2_with fail
      go_quiet (fail)
      go_wp2_with fail
      go_roundw
      case rel => exact ⟨k + 1, by omega, by go_num, below_drewN HBel.out _⟩
      case measure => (simp [intOf] <;> omega)
    · have HBel := Lib.hid hbel; clear hbel
      go_wp2_with fail
      go_ret
      exact ⟨rfl, HBel.out⟩
theorem groups_calls (how : Int) (v1 v2 : Value) (l : List ByteArray) (W : World) (h1 : Row W Any v1 l.length 1 (scells l)) (h2 : Row W Any v2 l.length 1 (scells l)) (hl : l.length ≤ 100000) :
    Calls Tryz.prog 44 #[.agg #[.int .i64 how, v1], .agg #[.int .i64 how, v2]] W (RetB (.bool true) W) := by
  obtain ⟨_, a1, cap1, rfl, _⟩ := id h1
  obtain ⟨_, a2, cap2, rfl, _⟩ := id h2
  have hb : Below W.heap.size W ((W.alloc (.cells #[.int .i64 how, .slice a1 l.length cap1] 26)).alloc (.cells #[.int .i64 how, .slice a2 l.length cap2] 26)) := ((Below.refl _ _).alloc (Nat.le_refl _) _).alloc (by simp) _
  have HB := Lib.hid hb
  have HE := Lib.hid (texts_calls _ _ l _ (h1.keep (by decide) (Keeps.below hb)) (h2.keep (by decide) (Keeps.below hb)) hl)
  clear h1 h2 hb
  go_enter Tryz.func44, Tryz.ntmps44
  go_wp2_with fail
  (with_reducible refine HE.out.mono ?_)
  rintro e W1 ⟨rfl, hb1⟩
  have HB1 := Lib.hid (HB.out.trans (hb1.mono HB.out.size)); clear hb1
  go_wp2_with fail
  go_ret
  exact ⟨rfl, HB1.out⟩
theorem matches_calls (how card : Int) (v1 v2 u1 u2 : Value) (l m : List ByteArray) (W : World) (h1 : Row W Any v1 l.length 1 (scells l)) (h2 : Row W Any v2 l.length 1 (scells l)) (hl : l.length ≤ 100000)
    (g1 : Row W Any u1 m.length 1 (scells m)) (g2 : Row W Any u2 m.length 1 (scells m)) (hm : m.length ≤ 100000) :
    Calls Tryz.prog 45 #[.agg #[.int .i64 how, v1, .int .i64 card, u1], .agg #[.int .i64 how, v2, .int .i64 card, u2]] W (RetB (.bool true) W) := by
  obtain ⟨_, a1, cap1, rfl, _⟩ := id h1
  obtain ⟨_, a2, cap2, rfl, _⟩ := id h2
  obtain ⟨_, b1, bap1, rfl, _⟩ := id g1
  obtain ⟨_, b2, bap2, rfl, _⟩ := id g2
  obtain ⟨B, hB⟩ : ∃ B, B = (W.alloc (.cells #[.int .i64 how, .slice a1 l.length cap1, .int .i64 card, .slice b1 m.length bap1] 28)).alloc (.cells #[.int .i64 how, .slice a2 l.length cap2, .int .i64 card, .slice b2 m.length bap2] 28) := ⟨_, rfl⟩
  have hb : Below W.heap.size W B := by rw [hB]; exact ((Below.refl _ _).alloc (Nat.le_refl _) _).alloc (by simp) _
  have hs : B.heap.size = W.heap.size + 2 := by rw [hB]; simp
  have n1 : B.heap[W.heap.size]? = some (.cells #[.int .i64 how, .slice a1 l.length cap1, .int .i64 card, .slice b1 m.length bap1] 28 (0, 0)) := by rw [hB]; exact blk_alloc (blk_new W _) _
  have n2 : B.heap[W.heap.size + 1]? = some (.cells #[.int .i64 how, .slice a2 l.length cap2, .int .i64 card, .slice b2 m.length bap2] 28 (0, 0)) := by rw [hB]; exact blk_new2 W _ _
  have p0 := blk_cell n1 0
  have p1 := blk_cell n1 1
  have q0 := blk_cell n2 0
  have q1 := blk_cell n2 1
  have HB := Lib.hid hb; have N1 := Lib.hid n1; have N2 := Lib.hid n2
  have HE := Lib.hid (groups_calls how _ _ l _ (h1.keep (by decide) (Keeps.below hb)) (h2.keep (by decide) (Keeps.below hb)) hl)
  have G1 := Lib.hid g1; have G2 := Lib.hid g2
  have hx := hB.symm
  clear h1 h2 hb g1 g2 n1 n2 hB
  go_enter Tryz.func45, Tryz.ntmps45
  go_wp2_with fail
  clear hx
  (with_reducible refine HE.out.mono ?_)
  rintro e W1 ⟨rfl, hb1⟩
  have n1 := (hb1.block _ (by omega)).trans N1.out
  have n2 := (hb1.block _ (by omega)).trans N2.out
  have r2 := blk_cell n1 2
  have r3 := blk_cell n1 3
  have s2 := blk_cell n2 2
  have s3 := blk_cell n2 3
  have hb01 := HB.out.trans (hb1.mono HB.out.size)
  have HT := Lib.hid (texts_calls _ _ m W1 (G1.out.keep (by decide) (Keeps.below hb01)) (G2.out.keep (by decide) (Keeps.below hb01)) hm)
  have HB1 := Lib.hid hb01; clear hb1 n1 n2 hb01 p0 p1 q0 q1
  go_wp2_with fail
  (with_reducible refine HT.out.mono ?_)
  rintro e W2 ⟨rfl, hb2⟩
  have HB2 := Lib.hid (HB1.out.trans (hb2.mono HB1.out.size)); clear hb2
  go_wp2_with fail
  go_ret
  exact ⟨rfl, HB2.out⟩
theorem kids1_calls (w : World) : Calls Tryz.prog 89 #[.int .i64 1] w fun e w' => e = .returned (.int .i64 0) ∧ w = w' := by
  go_enter Tryz.func89, Tryz.ntmps89
  go_wp2
  go_ret
  exact ⟨rfl, rfl⟩
end Go.Proofs.YtnbgigdloehbjaaGreatDoor.Ir.R
namespace Go.Proofs.YtnbgigdloehbjaaGreatDoor.Ir.R
open Go Go.RowKit Go.Proofs.YtnbgigdloehbjaaGreatDoor.Rg Go.Proofs.YtnbgigdloehbjaaGreatDoor.Ma
set_option maxHeartbeats 8000000
set_option maxRecDepth 100000

/-- A constant's cells. -/
abbrev kcl (x : Nat) : List Value := [.int .i64 1, .float .f64 x, .int .i64 0, .slice none 0 0, .int .i64 0, .int .i64 0, .int .i64 0, .int .i64 0, .slice none 0 0, .int .i64 0, .slice none 0 0, .int .i64 0, .slice none 0 0, .bool false, .string ⟨#[]⟩, .string ⟨#[]⟩, .slice none 0 0]
theorem kcl_one (x : Nat) : ∀ u ∈ kcl x, u.oneCell' = true := by
  intro u hu
  simp only [kcl, List.mem_cons, List.not_mem_nil, or_false] at hu
  rcases hu with rfl | rfl | rfl | rfl | rfl | rfl | rfl | rfl | rfl | rfl | rfl | rfl | rfl | rfl | rfl | rfl | rfl
  all_goals rfl
theorem run_store_float (a : Addr) (n : Nat) (m : Mode) (w : World) : (store a (.float .f64 n) m).run Tryz.prog w = stored Tryz.prog w a (.float .f64 n) m := run_store Tryz.prog w a _ m rfl
theorem clean_const (x : Nat) (W : World) : Calls Tryz.prog 72 #[.agg (kcl x).toArray] W (RetB (.agg (kcl (canonR x)).toArray) W) := by
  have hst := run_store_float
  obtain ⟨B, hB⟩ : ∃ B, B = (W.alloc (.cells (kcl x).toArray 43)).alloc (.cells zcl.toArray 43) := ⟨_, rfl⟩
  have hbB : Below W.heap.size W B := by rw [hB]; exact ((Below.refl _ _).alloc (Nat.le_refl _) _).alloc (by simp) _
  have hsB : B.heap.size = W.heap.size + 2 := by rw [hB]; simp
  have hg : B.heap[W.heap.size]? = some (.cells (kcl x).toArray 43 (0, 0)) := by rw [hB]; exact blk_alloc (blk_new W _) _
  have hg2 : B.heap[W.heap.size + 1]? = some (.cells zcl.toArray 43 (0, 0)) := by rw [hB]; exact blk_new2 W _ _
  have k0 := blk_cell hg 0
  have HbB := Lib.hid hbB; have Hg := Lib.hid hg; have Hg2 := Lib.hid hg2
  have hx : (W.alloc (.cells (kcl x).toArray 43)).alloc (.cells #[.int .i64 0, .float .f64 0, .int .i64 0, .slice none 0 0, .int .i64 0, .int .i64 0, .int .i64 0, .int .i64 0, .slice none 0 0, .int .i64 0, .slice none 0 0, .int .i64 0, .slice none 0 0, .bool false, .string ⟨#[]⟩, .string ⟨#[]⟩, .slice none 0 0] 43) = B := hB.symm
  clear hB hbB hg hg2
  go_enter Tryz.func72, Tryz.ntmps72
  go_wp2_with (first | ((with_reducible refine R.wpList_newNd rfl rfl 3 (.tmp 7) rfl rfl rfl rfl [.int .i64 1, .float .f64 0, .int .i64 0, .slice none 0 0, .int .i64 0, .int .i64 0, .int .i64 0, .int .i64 0, .slice none 0 0, .int .i64 0, .slice none 0 0, .int .i64 0, .slice none 0 0, .bool false, .string ⟨#[]⟩, .string ⟨#[]⟩, .slice none 0 0] rfl ?_ rfl (by simp [Value.oneCell']) ?_); (exact rfl)))
  clear hx
  obtain ⟨B1, hB1⟩ : ∃ B1, B1 = B.alloc (.cells ([.int .i64 1, .float .f64 0, .int .i64 0, .slice none 0 0, .int .i64 0, .int .i64 0, .int .i64 0, .int .i64 0, .slice none 0 0, .int .i64 0, .slice none 0 0, .int .i64 0, .slice none 0 0, .bool false, .string ⟨#[]⟩, .string ⟨#[]⟩, .slice none 0 0] : List Value).toArray 43) := ⟨_, rfl⟩
  have hb1 : Below W.heap.size W B1 := by rw [hB1]; exact HbB.out.alloc HbB.out.size _
  have hg1 : B1.heap[W.heap.size]? = some (.cells (kcl x).toArray 43 (0, 0)) := by rw [hB1]; exact blk_alloc Hg.out _
  have hg3 : B1.heap[W.heap.size + 1]? = some (.cells zcl.toArray 43 (0, 0)) := by rw [hB1]; exact blk_alloc Hg2.out _
  have hn1 : B1.heap[W.heap.size + 2]? = some (.cells (kcl 0).toArray 43 (0, 0)) := by rw [hB1, ← hsB]; exact blk_new B _
  have c0 := blk_cell hg1 0
  have c1 := blk_cell hg1 1
  have d1 := blk_cell hn1 1
  have f1 := blk_frozen hn1 1
  have HN1 := Lib.hid hn1; have Hb1 := Lib.hid hb1; have Hg3 := Lib.hid hg3
  rw [← hB1]
  clear hB1 hb1 hg1 hg3 hn1 HbB Hg Hg2 k0
  have hn2 : (B1.setCell ⟨W.heap.size + 2, 1, none⟩ (.float .f64 (canonR x))).heap[W.heap.size + 2]? = some (.cells (kcl (canonR x)).toArray 43 (0, 0)) := by rw [blk_set HN1.out 1 _]; rfl
  have hg4 : (B1.setCell ⟨W.heap.size + 2, 1, none⟩ (.float .f64 (canonR x))).heap[W.heap.size + 1]? = some (.cells zcl.toArray 43 (0, 0)) := blk_far Hg3.out (by simp) _
  have hb4 : Below W.heap.size W (B1.setCell ⟨W.heap.size + 2, 1, none⟩ (.float .f64 (canonR x))) := Hb1.out.setCell (p := ⟨W.heap.size + 2, 1, none⟩) (by simp) _
  have HN2 := Lib.hid hn2; have Hg4 := Lib.hid hg4; have Hb4 := Lib.hid hb4
  clear hn2 hg4 hb4
  have HOne := Lib.hid (kcl_one (canonR x))
  go_wp2_with (first | ((with_reducible refine (kids1_calls _).mono ?_); rintro e w' ⟨rfl, rfl⟩) | ((with_reducible refine (canon_calls _ _).mono ?_); rintro e w' ⟨rfl, rfl⟩) | (with_reducible refine R.wpList_loadNd rfl _ rfl (W.heap.size + 2) 0 rfl (kcl (canonR x)) (range_blk HN2.out) rfl ?_) | (with_reducible refine R.wpList_setNd rfl _ _ rfl (W.heap.size + 1) zcl (kcl (canonR x)) Hg4.out rfl rfl rfl rfl HOne.out ?_))
  refine bodyPost_ret_by (results_cell_row (p := 2) (ty := 43) rfl _ _ (W.heap.size + 1) 43 (kcl (canonR x)).toArray (0, 0) _ rfl (setRow_heap _ _ _ _ _ _ Hg4.out) Tryz.underlying43 rfl (by rw [R.sizeNd]; rfl)) rfl ?_
  exact ⟨rfl, below_row Hb4.out (by omega) _⟩
theorem same_const (x : Nat) (W : World) : Calls Tryz.prog 71 #[.agg (kcl x).toArray, .agg (kcl x).toArray] W (RetB (.bool true) W) := by
  obtain ⟨c, hc⟩ : ∃ c, c = kcl x := ⟨_, rfl⟩
  have k0 : c[0]? = some (.int .i64 1) := by rw [hc]; rfl
  have k1 : c[1]? = some (.float .f64 x) := by rw [hc]; rfl
  have k2 : c[2]? = some (.int .i64 0) := by rw [hc]; rfl
  have k3 : c[3]? = some (.slice none 0 0) := by rw [hc]; rfl
  have k4 : c[4]? = some (.int .i64 0) := by rw [hc]; rfl
  have k5 : c[5]? = some (.int .i64 0) := by rw [hc]; rfl
  have k6 : c[6]? = some (.int .i64 0) := by rw [hc]; rfl
  have k7 : c[7]? = some (.int .i64 0) := by rw [hc]; rfl
  have k8 : c[8]? = some (.slice none 0 0) := by rw [hc]; rfl
  have k9 : c[9]? = some (.int .i64 0) := by rw [hc]; rfl
  have k10 : c[10]? = some (.slice none 0 0) := by rw [hc]; rfl
  have k11 : c[11]? = some (.int .i64 0) := by rw [hc]; rfl
  have k12 : c[12]? = some (.slice none 0 0) := by rw [hc]; rfl
  have k13 : c[13]? = some (.bool false) := by rw [hc]; rfl
  have k14 : c[14]? = some (.string ⟨#[]⟩) := by rw [hc]; rfl
  have k15 : c[15]? = some (.string ⟨#[]⟩) := by rw [hc]; rfl
  have k16 : c[16]? = some (.slice none 0 0) := by rw [hc]; rfl
  rw [← hc]
  clear hc
  obtain ⟨B, hB⟩ : ∃ B, B = (W.alloc (.cells c.toArray 43)).alloc (.cells c.toArray 43) := ⟨_, rfl⟩
  have hbB : Below W.heap.size W B := by rw [hB]; exact ((Below.refl _ _).alloc (Nat.le_refl _) _).alloc (by simp) _
  have hsB : B.heap.size = W.heap.size + 2 := by rw [hB]; simp
  have hg1 : B.heap[W.heap.size]? = some (.cells c.toArray 43 (0, 0)) := by rw [hB]; exact blk_alloc (blk_new W _) _
  have hg2 : B.heap[W.heap.size + 1]? = some (.cells c.toArray 43 (0, 0)) := by rw [hB]; exact blk_new2 W _ _
  have na : ∀ j, B.cell? ⟨W.heap.size, j, none⟩ = c[j]? := fun j => (blk_cell hg1 j).trans (List.getElem?_toArray ..)
  have nb : ∀ j, B.cell? ⟨W.heap.size + 1, j, none⟩ = c[j]? := fun j => (blk_cell hg2 j).trans (List.getElem?_toArray ..)
  have HbB := Lib.hid hbB; have HG1 := Lib.hid hg1; have HG2 := Lib.hid hg2
  have hx := hB.symm
  clear hB hbB hg1 hg2
  go_enter Tryz.func71, Tryz.ntmps71
  go_wp2_with ((with_reducible refine (sameF_calls _ _).mono ?_); rintro e w9 ⟨rfl, rfl⟩)
  clear hx
  refine (matchers_calls _ _ [] _ (row_nil _ _ _) (row_nil _ _ _) (by decide)).mono ?_
  rintro e W1 ⟨rfl, hb⟩
  have hs1 : W.heap.size + 2 ≤ W1.heap.size := by have := hb.size; omega
  replace na : ∀ j, W1.cell? ⟨W.heap.size, j, none⟩ = c[j]? := fun j => (blk_cell ((hb.block _ (by omega)).trans HG1.out) j).trans (List.getElem?_toArray ..)
  replace nb : ∀ j, W1.cell? ⟨W.heap.size + 1, j, none⟩ = c[j]? := fun j => (blk_cell ((hb.block _ (by omega)).trans HG2.out) j).trans (List.getElem?_toArray ..)
  replace HG1 := Lib.hid ((hb.block _ (by omega)).trans HG1.out)
  replace HG2 := Lib.hid ((hb.block _ (by omega)).trans HG2.out)
  replace HbB := Lib.hid (HbB.out.trans (hb.mono (by omega)))
  clear hb
  go_wp2_with fail
  refine (groups_calls 0 _ _ [] _ (row_nil _ _ _) (row_nil _ _ _) (by decide)).mono ?_
  rintro e W2 ⟨rfl, hb⟩
  have hs2 : W.heap.size + 2 ≤ W2.heap.size := by have := hb.size; omega
  replace na : ∀ j, W2.cell? ⟨W.heap.size, j, none⟩ = c[j]? := fun j => (blk_cell ((hb.block _ (by omega)).trans HG1.out) j).trans (List.getElem?_toArray ..)
  replace nb : ∀ j, W2.cell? ⟨W.heap.size + 1, j, none⟩ = c[j]? := fun j => (blk_cell ((hb.block _ (by omega)).trans HG2.out) j).trans (List.getElem?_toArray ..)
  replace HG1 := Lib.hid ((hb.block _ (by omega)).trans HG1.out)
  replace HG2 := Lib.hid ((hb.block _ (by omega)).trans HG2.out)
  replace HbB := Lib.hid (HbB.out.trans (hb.mono (by omega)))
  clear hb
  go_wp2_with fail
  refine (matches_calls 0 0 _ _ _ _ [] [] _ (row_nil _ _ _) (row_nil _ _ _) (by decide) (row_nil _ _ _) (row_nil _ _ _) (by decide)).mono ?_
  rintro e W3 ⟨rfl, hb⟩
  have hs3 : W.heap.size + 2 ≤ W3.heap.size := by have := hb.size; omega
  replace na : ∀ j, W3.cell? ⟨W.heap.size, j, none⟩ = c[j]? := fun j => (blk_cell ((hb.block _ (by omega)).trans HG1.out) j).trans (List.getElem?_toArray ..)
  replace nb : ∀ j, W3.cell? ⟨W.heap.size + 1, j, none⟩ = c[j]? := fun j => (blk_cell ((hb.block _ (by omega)).trans HG2.out) j).trans (List.getElem?_toArray ..)
  replace HbB := Lib.hid (HbB.out.trans (hb.mono (by omega)))
  clear hb
  go_wp2_with fail
  refine wp_loop_rounds 1 ?_
  rw [rounds_succ]
  go_wp2_with fail
  go_ret
  exact ⟨rfl, HbB.out⟩
theorem Same_const (x : Nat) (W : World) : Calls Tryz.prog 42 #[.agg (kcl x).toArray, .agg (kcl x).toArray] W (RetB (.bool true) W) := by
  obtain ⟨B, hB⟩ : ∃ B, B = (W.alloc (.cells (kcl x).toArray 43)).alloc (.cells (kcl x).toArray 43) := ⟨_, rfl⟩
  have hbB : Below W.heap.size W B := by rw [hB]; exact ((Below.refl _ _).alloc (Nat.le_refl _) _).alloc (by simp) _
  have hsB : B.heap.size = W.heap.size + 2 := by rw [hB]; simp
  have hg1 : B.heap[W.heap.size]? = some (.cells (kcl x).toArray 43 (0, 0)) := by rw [hB]; exact blk_alloc (blk_new W _) _
  have hg2 : B.heap[W.heap.size + 1]? = some (.cells (kcl x).toArray 43 (0, 0)) := by rw [hB]; exact blk_new2 W _ _
  have HbB := Lib.hid hbB; have HG1 := Lib.hid hg1; have HG2 := Lib.hid hg2
  have hx := hB.symm
  clear hB hbB hg1 hg2
  go_enter Tryz.func42, Tryz.ntmps42
  go_wp2_with fail
  clear hx
  refine wp_region_held_drew (S := fun w => w.heap[W.heap.size]? = some (.cells (kcl x).toArray 43 (0, 0)) ∧ w.heap[W.heap.size + 1]? = some (.cells (kcl x).toArray 43 (0, 0))) (by kernel_rfl) ⟨HG1.out, HG2.out⟩ (fun hHeld => ?_)
  refine wpAnyH_take (i := 0) (v := .agg (kcl x).toArray) rfl (by kernel_rfl) (by kernel_rfl) (by kernel_rfl) (fun _ _ _ h => h) (yieldsIf_load_mid (by rfl) 43 (.tmp 2) rfl W.heap.size 0 rfl (kcl x) _ (fun w hw => range_blk hw.1) Tryz.underlying43 rfl (by rw [sizeNd]; rfl)) hHeld ?_
  try simp only [Act.put, List.getElem_toArray, List.getElem_cons_zero, List.setIfInBounds_toArray, List.set_cons_zero, List.set_cons_succ]
  refine wpAnyH_take (i := 2) (v := .agg (kcl x).toArray) rfl (by kernel_rfl) (by kernel_rfl) (by kernel_rfl) (fun _ _ _ h => h) (yieldsIf_load_mid (by rfl) 43 (.tmp 3) rfl (W.heap.size + 1) 0 rfl (kcl x) _ (fun w hw => range_blk hw.2) Tryz.underlying43 rfl (by rw [sizeNd]; rfl)) hHeld ?_
  try simp only [Act.put, List.getElem_toArray, List.getElem_cons_zero, List.getElem_cons_succ, List.setIfInBounds_toArray, List.set_cons_zero, List.set_cons_succ]
  refine wpAnyH_ready (rs := [1]) (by kernel_rfl) (by simp) (AllReadyH.cons rfl (fun K hK => ?_) AllReadyH.nil)
  rw [if_pos (by rfl)]
  go_simp
  go_at_call 72
  refine (clean_const x _).mono ?_
  rintro q w1 ⟨rfl, hb1⟩
  have hb1' : Below W.heap.size W w1 := HbB.out.drew.trans (hb1.mono HbB.out.drew.size)
  refine hK.out _ _ ⟨(hb1.block _ (by show _ < B.heap.size; omega)).trans hHeld.1, (hb1.block _ (by show _ < B.heap.size; omega)).trans hHeld.2⟩ (fun hHeld => ?_)
  have hs1 : W.heap.size + 2 ≤ w1.heap.size := by have : B.heap.size ≤ _ := hb1.size; omega
  clear hK K hb1
  try simp only [Act.put, List.getElem_toArray, List.getElem_cons_zero, List.getElem_cons_succ, List.setIfInBounds_toArray, List.set_cons_zero, List.set_cons_succ]
  refine wpAnyH_ready (rs := [3]) (by kernel_rfl) (by simp) (AllReadyH.cons rfl (fun K hK => ?_) AllReadyH.nil)
  rw [if_pos (by rfl)]
  go_simp
  go_at_call 72
  refine (clean_const x _).mono ?_
  rintro q w2 ⟨rfl, hb2⟩
  have hb2' : Below W.heap.size W w2 := hb1'.trans (hb2.mono hb1'.size)
  refine hK.out _ _ ⟨(hb2.block _ (by omega)).trans hHeld.1, (hb2.block _ (by omega)).trans hHeld.2⟩ (fun hHeld => ?_)
  have hs2 : W.heap.size + 2 ≤ w2.heap.size := by have := hb2.size; omega
  clear hK K hb2
  try simp only [Act.put, List.getElem_toArray, List.getElem_cons_zero, List.getElem_cons_succ, List.setIfInBounds_toArray, List.set_cons_zero, List.set_cons_succ]
  refine wpAnyH_ready (rs := [4]) (by kernel_rfl) (by simp) (AllReadyH.cons rfl (fun K hK => ?_) AllReadyH.nil)
  rw [if_pos (by rfl)]
  go_simp
  go_at_call 71
  refine (same_const (canonR x) _).mono ?_
  rintro q w3 ⟨rfl, hb3⟩
  have hb3' : Below W.heap.size W w3 := hb2'.trans (hb3.mono hb2'.size)
  refine hK.out _ _ ⟨(hb3.block _ (by omega)).trans hHeld.1, (hb3.block _ (by omega)).trans hHeld.2⟩ (fun hHeld => ?_)
  clear hK K hb3
  try simp only [Act.put, List.getElem_toArray, List.getElem_cons_zero, List.getElem_cons_succ, List.setIfInBounds_toArray, List.set_cons_zero, List.set_cons_succ]
  refine wpAnyH_take (i := 5) (v := .bool true) rfl (by kernel_rfl) (by kernel_rfl) (by kernel_rfl) (fun _ _ _ h => h) (Or.inl ⟨by rfl, fun w hSw => by go_simp⟩) hHeld ?_
  try simp only [Act.put, List.getElem_toArray, List.getElem_cons_zero, List.getElem_cons_succ, List.setIfInBounds_toArray, List.set_cons_zero, List.set_cons_succ]
  refine wpAnyH_done (by kernel_rfl) ?_ _
  go_wp2_with fail
  go_ret
  exact ⟨rfl, hb3'⟩
end Go.Proofs.YtnbgigdloehbjaaGreatDoor.Ir.R
namespace Go.Proofs.YtnbgigdloehbjaaGreatDoor.Ir
open Go Go.RowKit Go.Proofs.YtnbgigdloehbjaaGreatDoor.Rg Go.Proofs.YtnbgigdloehbjaaGreatDoor.Ma
set_option maxHeartbeats 16000000
set_option maxRecDepth 100000
def EqC (N : Nat) : Prop := ∀ n : Nd, n.tot ≤ N → n.Sm → ∀ (W : World) (c1 c2 : List Value), n.Held W Any c1 → n.Held W Any c2 → Calls Tryz.prog 21 #[.agg c1.toArray, .agg c2.toArray] W (RetB (.bool true) W)
theorem equal_calls : ∀ N : Nat, N ≤ 100000 → EqC N := by
  intro N
  induction N with
  | zero => intro _ n hn; have := n.tot_pos; omega
  | succ N ih =>
    rintro hN ⟨f, l⟩ hn hs W c1 c2 hH1 hH2
    rw [Nd.tot] at hn
    rw [Nd.Sm] at hs
    have hlen := l.len_tot
    obtain ⟨vM1, vG1, vX1, vI1, aK1, cK1, ls1, hcs1, hf1, hl1, hK1⟩ := hH1.open
    obtain ⟨_, aM1, cM1, rfl, _⟩ := id hf1.m
    obtain ⟨_, aG1, cG1, rfl, _⟩ := id hf1.g
    obtain ⟨_, aX1, cX1, rfl, _⟩ := id hf1.x
    obtain ⟨_, aI1, cI1, rfl, _⟩ := id hf1.i
    have k1_0 : c1[0]? = some (.int .i64 f.kind) := by rw [hcs1]; rfl
    have k1_1 : c1[1]? = some (.float .f64 f.num) := by rw [hcs1]; rfl
    have k1_2 : c1[2]? = some (.int .i64 f.fn) := by rw [hcs1]; rfl
    have k1_3 : c1[3]? = some (.slice aM1 f.m.length cM1) := by rw [hcs1]; rfl
    have k1_4 : c1[4]? = some (.int .i64 f.range) := by rw [hcs1]; rfl
    have k1_5 : c1[5]? = some (.int .i64 f.step) := by rw [hcs1]; rfl
    have k1_6 : c1[6]? = some (.int .i64 f.offset) := by rw [hcs1]; rfl
    have k1_7 : c1[7]? = some (.int .i64 f.ghow) := by rw [hcs1]; rfl
    have k1_8 : c1[8]? = some (.slice aG1 f.gn.length cG1) := by rw [hcs1]; rfl
    have k1_9 : c1[9]? = some (.int .i64 f.xhow) := by rw [hcs1]; rfl
    have k1_10 : c1[10]? = some (.slice aX1 f.xn.length cX1) := by rw [hcs1]; rfl
    have k1_11 : c1[11]? = some (.int .i64 f.card) := by rw [hcs1]; rfl
    have k1_12 : c1[12]? = some (.slice aI1 f.incl.length cI1) := by rw [hcs1]; rfl
    have k1_13 : c1[13]? = some (.bool f.flag) := by rw [hcs1]; rfl
    have k1_14 : c1[14]? = some (.string f.name) := by rw [hcs1]; rfl
    have k1_15 : c1[15]? = some (.string f.value) := by rw [hcs1]; rfl
    have k1_16 : c1[16]? = some (.slice aK1 l.len cK1) := by rw [hcs1]; rfl
    have HF1 := Lib.hid hf1; have HL1 := Lib.hid hl1; have HK1 := Lib.hid hK1
    obtain ⟨vM2, vG2, vX2, vI2, aK2, cK2, ls2, hcs2, hf2, hl2, hK2⟩ := hH2.open
    obtain ⟨_, aM2, cM2, rfl, _⟩ := id hf2.m
    obtain ⟨_, aG2, cG2, rfl, _⟩ := id hf2.g
    obtain ⟨_, aX2, cX2, rfl, _⟩ := id hf2.x
    obtain ⟨_, aI2, cI2, rfl, _⟩ := id hf2.i
    have k2_0 : c2[0]? = some (.int .i64 f.kind) := by rw [hcs2]; rfl
    have k2_1 : c2[1]? = some (.float .f64 f.num) := by rw [hcs2]; rfl
    have k2_2 : c2[2]? = some (.int .i64 f.fn) := by rw [hcs2]; rfl
    have k2_3 : c2[3]? = some (.slice aM2 f.m.length cM2) := by rw [hcs2]; rfl
    have k2_4 : c2[4]? = some (.int .i64 f.range) := by rw [hcs2]; rfl
    have k2_5 : c2[5]? = some (.int .i64 f.step) := by rw [hcs2]; rfl
    have k2_6 : c2[6]? = some (.int .i64 f.offset) := by rw [hcs2]; rfl
    have k2_7 : c2[7]? = some (.int .i64 f.ghow) := by rw [hcs2]; rfl
    have k2_8 : c2[8]? = some (.slice aG2 f.gn.length cG2) := by rw [hcs2]; rfl
    have k2_9 : c2[9]? = some (.int .i64 f.xhow) := by rw [hcs2]; rfl
    have k2_10 : c2[10]? = some (.slice aX2 f.xn.length cX2) := by rw [hcs2]; rfl
    have k2_11 : c2[11]? = some (.int .i64 f.card) := by rw [hcs2]; rfl
    have k2_12 : c2[12]? = some (.slice aI2 f.incl.length cI2) := by rw [hcs2]; rfl
    have k2_13 : c2[13]? = some (.bool f.flag) := by rw [hcs2]; rfl
    have k2_14 : c2[14]? = some (.string f.name) := by rw [hcs2]; rfl
    have k2_15 : c2[15]? = some (.string f.value) := by rw [hcs2]; rfl
    have k2_16 : c2[16]? = some (.slice aK2 l.len cK2) := by rw [hcs2]; rfl
    have HF2 := Lib.hid hf2; have HL2 := Lib.hid hl2; have HK2 := Lib.hid hK2
    have HIH := Lib.hid (ih (by omega)); have HS := Lib.hid hs
    clear hH1 hH2 hcs1 hcs2 hf1 hl1 hK1 hf2 hl2 hK2 hs ih
    obtain ⟨B, hB⟩ : ∃ B, B = (W.alloc (.cells c1.toArray 43)).alloc (.cells c2.toArray 43) := ⟨_, rfl⟩
    have hbB : Below W.heap.size W B := by rw [hB]; exact ((Below.refl _ _).alloc (Nat.le_refl _) _).alloc (by simp) _
    have hsB : B.heap.size = W.heap.size + 2 := by rw [hB]; simp
    have hg1 : B.heap[W.heap.size]? = some (.cells c1.toArray 43 (0, 0)) := by rw [hB]; exact blk_alloc (blk_new W _) _
    have hg2 : B.heap[W.heap.size + 1]? = some (.cells c2.toArray 43 (0, 0)) := by rw [hB]; exact blk_new2 W _ _
    have na : ∀ j, B.cell? ⟨W.heap.size, j, none⟩ = c1[j]? := fun j => (blk_cell hg1 j).trans (List.getElem?_toArray ..)
    have nb : ∀ j, B.cell? ⟨W.heap.size + 1, j, none⟩ = c2[j]? := fun j => (blk_cell hg2 j).trans (List.getElem?_toArray ..)
    have HbB := Lib.hid hbB; have HG1 := Lib.hid hg1; have HG2 := Lib.hid hg2
    have hx := hB.symm
    clear hB hbB hg1 hg2
    go_enter Tryz.func21, Tryz.ntmps21
    go_wp2_with fail
    clear hx
    refine (R.Same_const f.num _).mono ?_
    rintro e W0 ⟨rfl, hb⟩
    have hs0 : W.heap.size + 2 ≤ W0.heap.size := by have := hb.size; omega
    have hg1 : W0.heap[W.heap.size]? = some (.cells c1.toArray 43 (0, 0)) := (hb.block _ (by omega)).trans HG1.out
    have hg2 : W0.heap[W.heap.size + 1]? = some (.cells c2.toArray 43 (0, 0)) := (hb.block _ (by omega)).trans HG2.out
    replace na : ∀ j, W0.cell? ⟨W.heap.size, j, none⟩ = c1[j]? := fun j => (blk_cell hg1 j).trans (List.getElem?_toArray ..)
    replace nb : ∀ j, W0.cell? ⟨W.heap.size + 1, j, none⟩ = c2[j]? := fun j => (blk_cell hg2 j).trans (List.getElem?_toArray ..)
    replace HG1 := Lib.hid hg1
    replace HG2 := Lib.hid hg2
    replace HbB := Lib.hid (HbB.out.trans (hb.mono (by omega)))
    clear hb hg1 hg2
    go_wp2_with fail
    refine (R.matchers_calls _ _ f.m _ (HF1.out.m.keep (by decide) (Keeps.below HbB.out)) (HF2.out.m.keep (by decide) (Keeps.below HbB.out)) (by have := HS.out.1.m; omega)).mono ?_
    rintro e W1 ⟨rfl, hb⟩
    have hs1 : W.heap.size + 2 ≤ W1.heap.size := by have := hb.size; omega
    have hg1 : W1.heap[W.heap.size]? = some (.cells c1.toArray 43 (0, 0)) := (hb.block _ (by omega)).trans HG1.out
    have hg2 : W1.heap[W.heap.size + 1]? = some (.cells c2.toArray 43 (0, 0)) := (hb.block _ (by omega)).trans HG2.out
    replace na : ∀ j, W1.cell? ⟨W.heap.size, j, none⟩ = c1[j]? := fun j => (blk_cell hg1 j).trans (List.getElem?_toArray ..)
    replace nb : ∀ j, W1.cell? ⟨W.heap.size + 1, j, none⟩ = c2[j]? := fun j => (blk_cell hg2 j).trans (List.getElem?_toArray ..)
    replace HG1 := Lib.hid hg1
    replace HG2 := Lib.hid hg2
    replace HbB := Lib.hid (HbB.out.trans (hb.mono (by omega)))
    clear hb hg1 hg2
    go_wp2_with fail
    refine (R.groups_calls f.ghow _ _ f.gn _ (HF1.out.g.keep (by decide) (Keeps.below HbB.out)) (HF2.out.g.keep (by decide) (Keeps.below HbB.out)) HS.out.1.g).mono ?_
    rintro e W2 ⟨rfl, hb⟩
    have hs2 : W.heap.size + 2 ≤ W2.heap.size := by have := hb.size; omega
    have hg1 : W2.heap[W.heap.size]? = some (.cells c1.toArray 43 (0, 0)) := (hb.block _ (by omega)).trans HG1.out
    have hg2 : W2.heap[W.heap.size + 1]? = some (.cells c2.toArray 43 (0, 0)) := (hb.block _ (by omega)).trans HG2.out
    replace na : ∀ j, W2.cell? ⟨W.heap.size, j, none⟩ = c1[j]? := fun j => (blk_cell hg1 j).trans (List.getElem?_toArray ..)
    replace nb : ∀ j, W2.cell? ⟨W.heap.size + 1, j, none⟩ = c2[j]? := fun j => (blk_cell hg2 j).trans (List.getElem?_toArray ..)
    replace HG1 := Lib.hid hg1
    replace HG2 := Lib.hid hg2
    replace HbB := Lib.hid (HbB.out.trans (hb.mono (by omega)))
    clear hb hg1 hg2
    go_wp2_with fail
    refine (R.matches_calls f.xhow f.card _ _ _ _ f.xn f.incl _ (HF1.out.x.keep (by decide) (Keeps.below HbB.out)) (HF2.out.x.keep (by decide) (Keeps.below HbB.out)) HS.out.1.x (HF1.out.i.keep (by decide) (Keeps.below HbB.out)) (HF2.out.i.keep (by decide) (Keeps.below HbB.out)) HS.out.1.i).mono ?_
    rintro e W3 ⟨rfl, hb⟩
    have hs3 : W.heap.size + 2 ≤ W3.heap.size := by have := hb.size; omega
    have hg1 : W3.heap[W.heap.size]? = some (.cells c1.toArray 43 (0, 0)) := (hb.block _ (by omega)).trans HG1.out
    have hg2 : W3.heap[W.heap.size + 1]? = some (.cells c2.toArray 43 (0, 0)) := (hb.block _ (by omega)).trans HG2.out
    replace na : ∀ j, W3.cell? ⟨W.heap.size, j, none⟩ = c1[j]? := fun j => (blk_cell hg1 j).trans (List.getElem?_toArray ..)
    replace nb : ∀ j, W3.cell? ⟨W.heap.size + 1, j, none⟩ = c2[j]? := fun j => (blk_cell hg2 j).trans (List.getElem?_toArray ..)
    replace HG1 := Lib.hid hg1
    replace HG2 := Lib.hid hg2
    replace HbB := Lib.hid (HbB.out.trans (hb.mono (by omega)))
    clear hb hg1 hg2
    go_wp2_with fail
    clear na nb
    go_loopw [5] (fun i wr => ∃ k : Nat, k ≤ l.len ∧ i = .int .i64 (k : Int) ∧ Below W3.heap.size W3 wr) (fun i _ => l.len - (intOf i).toNat)
    case atStart => exact ⟨0, Nat.zero_le _, rfl, Below.refl _ _⟩
    case round =>
      obtain ⟨k, hk, rfl, hbel⟩ := hrel
      have hg1 : wr.heap[W.heap.size]? = some (.cells c1.toArray 43 (0, 0)) := (hbel.block _ (by omega)).trans HG1.out
      have hg2 : wr.heap[W.heap.size + 1]? = some (.cells c2.toArray 43 (0, 0)) := (hbel.block _ (by omega)).trans HG2.out
      have na : ∀ j, wr.cell? ⟨W.heap.size, j, none⟩ = c1[j]? := fun j => (blk_cell hg1 j).trans (List.getElem?_toArray ..)
      have HBel := Lib.hid (HbB.out.trans (hbel.mono (by omega)))
      have HBl := Lib.hid hbel
      by_cases hkl : k < l.len
      · obtain ⟨b, o, ha, n1, c, hn1, hat, hH1⟩ := kid_at (HL1.out.keep (Keeps.below HBel.out)) (HK1.out.keep (by decide) (Keeps.below HBel.out)) hkl
        obtain ⟨b2, o2, ha2, n2, d, hn2, hat2, hH2⟩ := kid_at (HL2.out.keep (Keeps.below HBel.out)) (HK2.out.keep (by decide) (Keeps.below HBel.out)) hkl
        subst ha ha2
        have hnn : n2 = n1 := by rw [hn1] at hn2; exact (Option.some.inj hn2).symm
        subst hnn
        have ht1 := Kd.tot_kid hn1
        have hc17 := hH1.length
        have hd17 := hH2.length
        have hSn := HS.out.2.kid hn1
        have HCall := Lib.hid (fun (w' : World) (hb : Below wr.heap.size wr w') => HIH.out n2 (by omega) hSn w' c d (hH1.below hb) (hH2.below hb))
        have HR := Lib.hid (And.intro hg1 (And.intro hg2 (And.intro hat hat2)))
        have hwsz : W.heap.size + 2 ≤ wr.heap.size := by have := hbel.size; omega
        clear hn1 hn2 hat hat2 hH1 hH2 hbel hg1 hg2
        go_wp2_with fail
        clear na
        refine wp_region_held_drew (S := fun w => w.heap[W.heap.size]? = some (.cells c1.toArray 43 (0, 0)) ∧ w.heap[W.heap.size + 1]? = some (.cells c2.toArray 43 (0, 0)) ∧ w.rangeAt b (o + k * 17) c ∧ w.rangeAt b2 (o2 + k * 17) d) (by kernel_rfl) HR.out (fun hHeld => ?_)
        refine wpAnyH_take (i := 0) (v := .pointer (some ⟨W.heap.size, 16, none⟩)) rfl (by kernel_rfl) (by kernel_rfl) (by kernel_rfl) (fun _ _ _ h => h) (Or.inl ⟨by rfl, fun w hSw => by go_simp⟩) hHeld ?_
        try simp only [Act.put, List.getElem_toArray, List.getElem_cons_zero, List.setIfInBounds_toArray, List.set_cons_zero, List.set_cons_succ]
        refine wpAnyH_take (i := 1) (v := .slice (some ⟨b, o, none⟩) l.len cK1) rfl (by kernel_rfl) (by kernel_rfl) (by kernel_rfl) (fun _ _ _ h => h) (Or.inl ⟨by rfl, fun w hSw => by (have hcc := (blk_cell hSw.1 16).trans ((List.getElem?_toArray ..).trans k1_16)); go_simp⟩) hHeld ?_
        try simp only [Act.put, List.getElem_toArray, List.getElem_cons_zero, List.getElem_cons_succ, List.setIfInBounds_toArray, List.set_cons_zero, List.set_cons_succ]
        refine wpAnyH_take (i := 2) (v := .int .i64 (k : Int)) rfl (by kernel_rfl) (by kernel_rfl) (by kernel_rfl) (fun _ _ _ h => h) (Or.inl ⟨by rfl, fun w hSw => by go_simp⟩) hHeld ?_
        try simp only [Act.put, List.getElem_toArray, List.getElem_cons_zero, List.getElem_cons_succ, List.setIfInBounds_toArray, List.set_cons_zero, List.set_cons_succ]
        refine wpAnyH_take (i := 3) (v := .pointer (some ⟨b, o + k * 17, none⟩)) rfl (by kernel_rfl) (by kernel_rfl) (by kernel_rfl) (fun _ _ _ h => h) (Or.inl ⟨by rfl, fun w hSw => by go_simp⟩) hHeld ?_
        try simp only [Act.put, List.getElem_toArray, List.getElem_cons_zero, List.getElem_cons_succ, List.setIfInBounds_toArray, List.set_cons_zero, List.set_cons_succ]
        refine wpAnyH_take (i := 4) (v := .agg c.toArray) rfl (by kernel_rfl) (by kernel_rfl) (by kernel_rfl) (fun _ _ _ h => h) (yieldsIf_load_mid (by rfl) 43 (.tmp 113) rfl b (o + k * 17) rfl c _ (fun w hw => hw.2.2.1) Tryz.underlying43 rfl (by rw [R.sizeNd, hc17])) hHeld ?_
        try simp only [Act.put, List.getElem_toArray, List.getElem_cons_zero, List.getElem_cons_succ, List.setIfInBounds_toArray, List.set_cons_zero, List.set_cons_succ]
        refine wpAnyH_take (i := 5) (v := .pointer (some ⟨W.heap.size + 1, 16, none⟩)) rfl (by kernel_rfl) (by kernel_rfl) (by kernel_rfl) (fun _ _ _ h => h) (Or.inl ⟨by rfl, fun w hSw => by go_simp⟩) hHeld ?_
        try simp only [Act.put, List.getElem_toArray, List.getElem_cons_zero, List.getElem_cons_succ, List.setIfInBounds_toArray, List.set_cons_zero, List.set_cons_succ]
        refine wpAnyH_take (i := 6) (v := .slice (some ⟨b2, o2, none⟩) l.len cK2) rfl (by kernel_rfl) (by kernel_rfl) (by kernel_rfl) (fun _ _ _ h => h) (Or.inl ⟨by rfl, fun w hSw => by (have hcc := (blk_cell hSw.2.1 16).trans ((List.getElem?_toArray ..).trans k2_16)); go_simp⟩) hHeld ?_
        try simp only [Act.put, List.getElem_toArray, List.getElem_cons_zero, List.getElem_cons_succ, List.setIfInBounds_toArray, List.set_cons_zero, List.set_cons_succ]
        refine wpAnyH_take (i := 7) (v := .int .i64 (k : Int)) rfl (by kernel_rfl) (by kernel_rfl) (by kernel_rfl) (fun _ _ _ h => h) (Or.inl ⟨by rfl, fun w hSw => by go_simp⟩) hHeld ?_
        try simp only [Act.put, List.getElem_toArray, List.getElem_cons_zero, List.getElem_cons_succ, List.setIfInBounds_toArray, List.set_cons_zero, List.set_cons_succ]
        refine wpAnyH_take (i := 8) (v := .pointer (some ⟨b2, o2 + k * 17, none⟩)) rfl (by kernel_rfl) (by kernel_rfl) (by kernel_rfl) (fun _ _ _ h => h) (Or.inl ⟨by rfl, fun w hSw => by go_simp⟩) hHeld ?_
        try simp only [Act.put, List.getElem_toArray, List.getElem_cons_zero, List.getElem_cons_succ, List.setIfInBounds_toArray, List.set_cons_zero, List.set_cons_succ]
        refine wpAnyH_take (i := 9) (v := .agg d.toArray) rfl (by kernel_rfl) (by kernel_rfl) (by kernel_rfl) (fun _ _ _ h => h) (yieldsIf_load_mid (by rfl) 43 (.tmp 118) rfl b2 (o2 + k * 17) rfl d _ (fun w hw => hw.2.2.2) Tryz.underlying43 rfl (by rw [R.sizeNd, hd17])) hHeld ?_
        try simp only [Act.put, List.getElem_toArray, List.getElem_cons_zero, List.getElem_cons_succ, List.setIfInBounds_toArray, List.set_cons_zero, List.set_cons_succ]
        refine wpAnyH_ready (rs := [10]) (by kernel_rfl) (by simp) (AllReadyH.cons rfl (fun K' hK' => ?_) AllReadyH.nil)
        rw [if_pos (by rfl)]
        go_simp
        go_at_call 21
        refine (HCall.out _ (Below.refl _ _).drew).mono ?_
        rintro q w2 ⟨rfl, hb2⟩
        have hb2' : Below wr.heap.size wr w2 := ((Below.refl wr.heap.size wr).drew).trans hb2
        refine hK'.out _ _ ⟨(hb2'.block _ (by omega)).trans HR.out.1, (hb2'.block _ (by omega)).trans HR.out.2.1, range_keep HR.out.2.2.1 fun h => hb2'.block _ h, range_keep HR.out.2.2.2 fun h => hb2'.block _ h⟩ (fun hHeld => ?_)
        have HB2 := Lib.hid (HBl.out.trans (hb2'.mono HBl.out.size))
        clear hK' K' hb2 hb2'
        try simp only [Act.put, List.getElem_toArray, List.getElem_cons_zero, List.getElem_cons_succ, List.setIfInBounds_toArray, List.set_cons_zero, List.set_cons_succ]
        refine wpAnyH_take (i := 11) (v := .bool false) rfl (by kernel_rfl) (by kernel_rfl) (by kernel_rfl) (fun _ _ _ h => h) (Or.inl ⟨by rfl, fun w hSw => by go_simp⟩) hHeld ?_
        try simp only [Act.put, List.getElem_toArray, List.getElem_cons_zero, List.getElem_cons_succ, List.setIfInBounds_toArray, List.set_cons_zero, List.set_cons_succ]
        refine wpAnyH_done (by kernel_rfl) ?_ _
        clear hHeld
        go_wp2_with fail
        go_roundw
        case rel => exact ⟨k + 1, by omega, by go_num, HB2.out⟩
        case measure => (simp [intOf] <;> omega)
      · clear hg1 hg2
        go_wp2_with fail
        go_ret
        exact ⟨rfl, HBel.out⟩
end Go.Proofs.YtnbgigdloehbjaaGreatDoor.Ir
namespace Go.Proofs.YtnbgigdloehbjaaGreatDoor.Ir
open Go Go.RowKit Go.Shelf Go.Proofs.YtnbgigdloehbjaaGreatDoor.Rg Go.Proofs.YtnbgigdloehbjaaGreatDoor.Ma Go.Proofs.YtnbgigdloehbjaaGreatDoor.Rng
set_option maxHeartbeats 16000000
set_option maxRecDepth 100000
attribute [local go_sem] Oper.semAt_some

/-- What stands in the caller's variables. -/
structure Vars (s : Nat) (v : Value) (stop : Int) (k : Nat) (r : Bool) (W w : World) : Prop where
  want : w.heap[s + 1]? = some (.cells #[v] 39 (0, 0))
  stop : w.heap[s + 2]? = some (.cells #[.int .i64 stop] 3 (0, 0))
  res : w.heap[s + 3]? = some (.cells #[.bool r] 4 (0, 0))
  k : w.heap[s + 4]? = some (.cells #[.int .i64 (k : Int)] 3 (0, 0))
  bel : Below s W w
theorem Vars.step {s : Nat} {v : Value} {stop : Int} {k : Nat} {r : Bool} {W w w1 : World} (h : Vars s v stop k r W w) (hb : ∀ b, b < s + 5 → w1.heap[b]? = w.heap[b]?) (hB : Below s W w1) : Vars s v stop k r W w1 :=
  ⟨(hb _ (by omega)).trans h.want, (hb _ (by omega)).trans h.stop, (hb _ (by omega)).trans h.res, (hb _ (by omega)).trans h.k, hB⟩
theorem Vars.below {s : Nat} {v : Value} {stop : Int} {k : Nat} {r : Bool} {W w w1 : World} (h : Vars s v stop k r W w) (_hs : W.heap.size = s) (hb : Below w.heap.size w w1) : Vars s v stop k r W w1 := by
  have h5 := blk_lt h.k
  exact h.step (fun b hlt => hb.block b (by omega)) (h.bel.trans (hb.mono (by have := h.bel.size; omega)))
theorem Vars.setK {s : Nat} {v : Value} {stop : Int} {k : Nat} {r : Bool} {W w : World} (h : Vars s v stop k r W w) : Vars s v stop (k + 1) r W (w.setCell ⟨s + 4, 0, none⟩ (.int .i64 ((k : Int) + 1))) := by
  have hk : ∀ b, b ≠ s + 4 → (w.setCell ⟨s + 4, 0, none⟩ (.int .i64 ((k : Int) + 1))).heap[b]? = w.heap[b]? := fun b hb => Below.heap_setCell w ⟨s + 4, 0, none⟩ _ b hb
  exact ⟨(hk _ (by omega)).trans h.want, (hk _ (by omega)).trans h.stop, (hk _ (by omega)).trans h.res, by rw [blk_set h.k]; rfl, h.bel.setCell (p := ⟨s + 4, 0, none⟩) (by show s ≤ s + 4; omega) _⟩
theorem Vars.setR {s : Nat} {v : Value} {stop : Int} {k : Nat} {r q : Bool} {W w : World} (h : Vars s v stop k r W w) : Vars s v stop k q W (w.setCell ⟨s + 3, 0, none⟩ (.bool q)) := by
  have hk : ∀ b, b ≠ s + 3 → (w.setCell ⟨s + 3, 0, none⟩ (.bool q)).heap[b]? = w.heap[b]? := fun b hb => Below.heap_setCell w ⟨s + 3, 0, none⟩ _ b hb
  exact ⟨(hk _ (by omega)).trans h.want, (hk _ (by omega)).trans h.stop, by rw [blk_set h.res]; rfl, (hk _ (by omega)).trans h.k, h.bel.setCell (p := ⟨s + 3, 0, none⟩) (by show s ≤ s + 3; omega) _⟩
theorem keepsFrom_below {B : Nat} {A C : World} (h : Below A.heap.size A C) : KeepsFrom B A C := ⟨h.size, fun _ _ _ hk _ => (h.block _ (Array.getElem?_eq_some_iff.1 hk).1).trans hk⟩
def KInv (s : Nat) (v : Value) (stop : Int) (full : List (Nat × Nd)) (W : World) (pre : List (Nat × Nd)) (w : World) : Prop := pre <+: full ∧ Vars s v stop pre.length false W w
def KOut (s : Nat) (v : Value) (stop : Int) (W : World) (c : Code) (_ : List (Nat × Nd)) (w : World) : Prop := c = .ret ∧ ∃ k, Vars s v stop k true W w
theorem vars_own {s : Nat} {v : Value} {stop : Int} {W : World} {B : Nat} (hB : s + 5 ≤ B) {w w1 : World} {row : Option Nat} {k : Nat} {r : Bool} (h : Vars s v stop k r W w) (hg : w.grownBy w1 row) (hr : ∀ j, row = some j → B ≤ j ∧ ∃ o : Obj, w.heap[j]? = some o ∧ o.isCells = false) : Vars s v stop k r W w1 := by
  have h5 := blk_lt h.k
  exact h.step (fun b hlt => hg.block b (by omega) (fun e => by have := (hr b e.symm).1; omega)) (h.bel.grown hg (by have := h.bel.size; omega) (fun j e => by have := (hr j e).1; omega))
mutual
theorem Nd.lst_all : ∀ (n : Nd) (d : Nat), n.Sm → ∀ x ∈ n.lst d, x.2.tot ≤ n.tot ∧ x.2.Sm
  | .mk f l, d, hs, x, hx => by
    have hs' := hs
    rw [Nd.Sm] at hs'
    rw [Nd.lst, List.mem_append] at hx
    rcases hx with hx | hx
    · have := Kd.lsts_all l (d + 1) hs'.2 x hx
      exact ⟨by rw [Nd.tot]; omega, this.2⟩
    · simp at hx
      subst hx
      exact ⟨Nat.le_refl _, hs⟩
theorem Kd.lsts_all : ∀ (l : Kd) (d : Nat), l.Sm → ∀ x ∈ l.lsts d, x.2.tot ≤ l.tot ∧ x.2.Sm
  | .nil, d, hs, x, hx => by rw [Kd.lsts] at hx; simp at hx
  | .snoc l n, d, hs, x, hx => by
    rw [Kd.Sm] at hs
    rw [Kd.lsts, List.mem_append] at hx
    rw [Kd.tot]
    rcases hx with hx | hx
    · have := Kd.lsts_all l d hs.1 x hx
      exact ⟨by omega, this.2⟩
    · have := Nd.lst_all n d hs.2 x hx
      exact ⟨by omega, this.2⟩
end
theorem lst_all (n : Nd) (d : Nat) (h : n.tot ≤ 1000) (hs : n.Sm) (x : Nat × Nd) (hx : x ∈ n.lst d) : x.2.tot ≤ 1000 ∧ x.2.Sm := ⟨by have := (Nd.lst_all n d hs x hx).1; omega, (Nd.lst_all n d hs x hx).2⟩
theorem blk_lt' {W : World} {b : Nat} {o : Obj} (h : W.heap[b]? = some o) : b < W.heap.size := (Array.getElem?_eq_some_iff.1 h).1
/-- The loop's variables are laid. -/
def KAx (s : Nat) (full : List (Nat × Nd)) (tm : Nat → Nat → List Value → Array Value) (l : Nat) (pre : List (Nat × Nd)) (x : Nat × Nd) (a : Act) (w : World) : Prop :=
  ∃ bx c, s + 5 ≤ bx ∧ bx ≠ l ∧ w.heap[bx]? = some (.cells c.toArray 31 (0, 0)) ∧ x.2.Held w (fun b => b ≠ l) c ∧ pre ++ [x] <+: full ∧ a = { tmps := tm x.1 bx c, defers := [] }
theorem walked_end {s D k : Nat} {v : Value} {stop : Int} {W A : World} {tmps : Array Value} (hs : W.heap.size = s) (hD : s + 5 ≤ D) (hv : Vars s v stop k true W A) (hK : A.heap[D]? = some (.deferred (some []))) (ht : tmps.getD 6 undef = .pointer (some ⟨s + 3, 0, none⟩) := by rfl) :
    bodyPostM Fence.wide 9 Tryz.prog Tryz.f12 (RetB (.bool true) W) .ret { tmps := tmps, defers := [{ target := .collected D, args := #[] }] } A := by
  have hc : (A.putObj D (.deferred none)).cell? ⟨s + 3, 0, none⟩ = some (.bool true) := blk_cell ((World.putObj_heap_other (by omega)).trans hv.res) 0
  have hb : Below s W (A.putObj D (.deferred none)) := hv.bel.grown (grownBy_putObj' _ _ _) (by have := blk_lt hv.k; omega) (fun j e => by cases e; omega)
  have ht' : tmps[6]?.getD undef = .pointer (some ⟨s + 3, 0, none⟩) := by simpa using ht
  refine ⟨by simp, .inl ⟨_, _, rfl, run_takeDeferred hK, .bool true, ?_, rfl, ?_⟩⟩
  · simp [results, Tryz.results12, ht', asAddr, go_sem, hc]
  · rw [hs]; exact hb
theorem walked_calls (n : Nd) (hn : n.tot ≤ 1000) (hSm : n.Sm) (W : World) (cs : List Value) (v : Value) (xs : List Value) (stop : Int) (hH : n.Held W Any cs) (hv : Row W Any v (n.lst 1).length 18 xs) (hr : RowsH W Any (n.lst 1) xs) :
    Calls Tryz.prog 12 #[.agg cs.toArray, v, .int .i64 stop] W (RetB (.bool true) W) := by
  obtain ⟨_, av, cv, rfl, _⟩ := id hv
  have HC17 := Lib.hid hH.length
  have hlen : (n.lst 1).length = n.tot := n.lst_len 1
  obtain ⟨N, hN⟩ : ∃ N, (n.lst 1).length = N := ⟨_, rfl⟩
  rw [hN] at hv hlen ⊢
  have HLen := Lib.hid hlen; have HN := Lib.hid hN
  clear hlen hN
  obtain ⟨B, hB⟩ : ∃ B, B = ((((W.alloc (.cells cs.toArray 31)).alloc (.cells #[.slice av N cv] 39)).alloc (.cells #[.int .i64 stop] 3)).alloc (.cells #[.bool false] 4)).alloc (.cells #[.int .i64 0] 3) := ⟨_, rfl⟩
  have hsB : B.heap.size = W.heap.size + 5 := by rw [hB]; simp
  have hbB : Below W.heap.size W B := by rw [hB]; exact (((((Below.refl _ _).alloc (Nat.le_refl _) _).alloc (by simp) _).alloc (by simp; omega) _).alloc (by simp; omega) _).alloc (by simp; omega) _
  have g0 : B.heap[W.heap.size]? = some (.cells cs.toArray 31 (0, 0)) := by rw [hB]; exact blk_alloc (blk_alloc (blk_alloc (blk_alloc (blk_new W _) _) _) _) _
  have hvars : Vars W.heap.size (.slice av N cv) stop 0 false W B := by
    refine ⟨?_, ?_, ?_, ?_, hbB⟩ <;> rw [hB]
    · exact blk_alloc (blk_alloc (blk_alloc (blk_new2 W _ _) _) _) _
    · have := blk_new ((W.alloc (.cells cs.toArray 31)).alloc (.cells #[.slice av N cv] 39)) (.cells #[.int .i64 stop] 3)
      simp only [World.size_alloc] at this
      exact blk_alloc (blk_alloc this _) _
    · have := blk_new (((W.alloc (.cells cs.toArray 31)).alloc (.cells #[.slice av N cv] 39)).alloc (.cells #[.int .i64 stop] 3)) (.cells #[.bool false] 4)
      simp only [World.size_alloc] at this
      exact blk_alloc this _
    · have := blk_new ((((W.alloc (.cells cs.toArray 31)).alloc (.cells #[.slice av N cv] 39)).alloc (.cells #[.int .i64 stop] 3)).alloc (.cells #[.bool false] 4)) (.cells #[.int .i64 0] 3)
      simp only [World.size_alloc] at this
      exact this
  have HW := Lib.hid (Walk_calls n hn hSm B cs (hH.below hbB))
  have HVars := Lib.hid hvars; have G0 := Lib.hid g0; have HV := Lib.hid hv; have HR := Lib.hid hr
  clear hbB g0 hvars hH hv hr hsB
  subst hB
  refine (callsIn_wide (n := 9)).1 ?_
  refine callsIn_of_wp_marks Tryz.func12 rfl trivial ?_ rfl
  simp only [Tryz.ntmps12, List.size_toArray, List.length_cons, List.length_nil, Nat.reduceAdd, Nat.reduceSub, Array.replicate_succ, Array.replicate_zero, List.push_toArray, List.append_toArray, List.nil_append, List.cons_append]
  gi_wp2_with (with_reducible refine wpListIn_loadNd rfl _ rfl W.heap.size 0 rfl cs (range_blk G0.out) HC17.out ?_)
  refine ⟨trivial, ?_⟩
  gi_at_call 20
  refine (callsIn_wide.2 HW.out).mono ?_
  rintro q w6 ⟨bx, c, rfl, hbx, hbc, hn6, hb6⟩
  have hv6 := HVars.out.below rfl hb6
  have hs6 : W.heap.size + 5 ≤ w6.heap.size := by have := blk_lt hv6.k; omega
  have Hn6 := Lib.hid hn6; have Hbc := Lib.hid hbc; have HV6 := Lib.hid hv6
  clear hn6 hbc hb6 hv6
  gi_wp2_with fail
  refine wpIn_range rfl (fun h => (by cases h)) (gf := 40) (lb := #[.pointer (some ⟨bx, 0, none⟩)]) rfl trivial (enters_of Tryz.func40 (by kernel_rfl) rfl)
    (walk1_gives n hn hSm _ bx w6 c hbx Hbc.out Hn6.out _) (fun h k => h.trans k) (fun W' l o' => ⟨by simp, fun b _ _ hne => World.putObj_heap_other hne⟩)
    (KInv W.heap.size (.slice av N cv) stop (n.lst 1) W) (KOut W.heap.size (.slice av N cv) stop W)
    (fun pre A C row hs hg hr => ⟨hs.1, vars_own (B := w6.heap.size) hs6 hs.2 hg hr⟩) (fun c' pre A C row hs hg hr => ⟨hs.1, hs.2.elim fun k hk => ⟨k, vars_own (B := w6.heap.size) hs6 hk hg hr⟩⟩)
    ⟨List.nil_prefix, HV6.out⟩
    (KAx W.heap.size (n.lst 1) (fun d y c' => #[.agg cs.toArray, .slice av N cv, .int .i64 stop, .pointer (some ⟨W.heap.size, 0, none⟩), .pointer (some ⟨W.heap.size + 1, 0, none⟩), .pointer (some ⟨W.heap.size + 2, 0, none⟩), .pointer (some ⟨W.heap.size + 3, 0, none⟩), .pointer (some ⟨W.heap.size + 4, 0, none⟩), .int .i64 (d : Nat), .pointer (some ⟨y, 0, none⟩), .agg cs.toArray, .func (.func 40) #[] #[.pointer (some ⟨bx, 0, none⟩)], .int .i64 (d : Nat), .agg c'.toArray, undef, undef, undef, undef, undef, undef, undef, undef, undef, undef, undef, undef, undef, undef, undef, undef, undef, undef, undef, undef, undef, undef, undef, undef, undef, undef, undef, undef, undef, undef, undef, undef, undef, undef, undef, undef, undef, undef, undef, undef, undef, undef, undef, undef]))
    (fun l pre x a₁ A o' ⟨y, c', h1, h2, h3, h4, h5, h6⟩ => ⟨y, c', h1, h2, (World.putObj_heap_other h2).trans h3, Nd.Held.keep (fun b hb _ => ⟨World.putObj_heap_other hb, hb⟩) _ h4, h5, h6⟩)
    ?assign ?body ?done ?stop
  case assign =>
    rintro l m pre x args A K hi hl1 hl2 _ ⟨c', rfl, hh, hp⟩ hK
    have hl17 := hh.length
    have HOne := Lib.hid hh.one
    have hb1 : Below A.heap.size A (A.alloc (.cells c'.toArray 31)) := (Below.refl _ _).alloc (Nat.le_refl _) _
    gi_wp2_with (with_reducible refine wpListIn_newNd rfl rfl 9 (.tmp 13) rfl rfl rfl rfl c' rfl rfl hl17 HOne.out ?_)
    refine hK _ _ ⟨hb1.size, fun k o _ hk _ => (hb1.block _ (blk_lt' hk)).trans hk⟩ (Kept.of hb1) ⟨hi.1, hi.2.below rfl hb1⟩ ⟨A.heap.size, c', ?_, by omega, blk_new _ _, Nd.Held.keep (fun b hb hlt => ⟨hb1.block b hlt, hb⟩) _ hh, hp, rfl⟩
    have := blk_lt hi.2.k
    omega
  case body =>
    rintro l m pre ⟨d, ⟨f, lk⟩⟩ a₁ A ⟨hp, hv⟩ ⟨y, c', h5, hne, hcell, hheld, hpre, rfl⟩
    have hpl : pre.length < N := by
      have h1 := hpre.length_le
      have h2 := HN.out
      simp at h1
      omega
    have hget : (n.lst 1)[pre.length]? = some (d, Nd.mk f lk) := by
      obtain ⟨r, hr⟩ := hpre
      rw [← hr, List.append_assoc, List.getElem?_append_right (Nat.le_refl _)]
      simp
    have hN1000 : N ≤ 1000 := by have := HLen.out; omega
    obtain ⟨hr0, c2, hh2, hr1⟩ := HR.out.at hget
    obtain ⟨hxl, ao, cp, hveq, hrow⟩ := HV.out
    simp only [Value.slice.injEq, true_and] at hveq
    obtain ⟨rfl, rfl⟩ := hveq
    obtain ⟨b, o, _, rfl, hrange⟩ := hrow (by omega)
    have hc17' := hheld.length
    have h2l := hh2.length
    obtain ⟨k, hk⟩ : ∃ k, pre.length = k := ⟨_, rfl⟩
    rw [hk] at hv hpl hget hr0 hr1
    have rd : A.cell? ⟨b, o + k * 18, none⟩ = some (.int .i64 (d : Int)) := by
      have h1 := hrange _ _ hr0
      exact (hv.bel.cell (p := ⟨b, o + k * 18, none⟩) (World.block_lt_of_cell? W _ h1)).trans h1
    have rr : A.rangeAt b (o + k * 18 + 1) c2 := fun j u hj => by
      have h1 := hrange _ _ (hr1 j u hj)
      rw [← Nat.add_assoc, ← Nat.add_assoc] at h1
      exact (hv.bel.cell (p := ⟨b, o + k * 18 + 1 + j, none⟩) (World.block_lt_of_cell? W _ h1)).trans h1
    have hbW : b < W.heap.size := World.block_lt_of_cell? W _ (hrange _ _ hr0)
    have hH2 : (Nd.mk f lk).Held A Any c2 := hh2.below hv.bel
    have hk0 : c'[0]? = some (.int .i64 f.kind) := by
      obtain ⟨_, _, _, _, _, _, _, hcs, _⟩ := hheld.open
      rw [hcs]; rfl
    have hk2 : c2[0]? = some (.int .i64 f.kind) := by
      obtain ⟨_, _, _, _, _, _, _, hcs, _⟩ := hh2.open
      rw [hcs]; rfl
    have hSm1 : (Nd.mk f lk).tot ≤ 1000 ∧ (Nd.mk f lk).Sm := lst_all n 1 hn hSm _ (List.mem_of_getElem? hget)
    have HOf := Lib.hid (fun (w' : World) (hb : Below A.heap.size A w') => Of_calls 1000 (.mk f lk) hSm1.1 (by decide) w'.heap.size w' c' (Nat.le_refl _) (Nd.Held.keep (fun b' _ hlt => ⟨hb.block b' hlt, by have := hb.size; omega⟩) _ hheld))
    have HEq := Lib.hid (fun (w' : World) (c1 : List Value) (h1 : (Nd.mk f lk).Held w' Any c1) (hb : Below A.heap.size A w') => equal_calls 1000 (by decide) (.mk f lk) hSm1.1 hSm1.2 w' c1 c2 h1 (hH2.below hb))
    have HSS := Lib.hid (show A.heap[W.heap.size + 4]? = some (.cells #[.int .i64 (k : Int)] 3 (0, 0)) ∧ A.heap[W.heap.size + 1]? = some (.cells #[.slice (some ⟨b, o, none⟩) N cv] 39 (0, 0)) ∧ A.heap[y]? = some (.cells c'.toArray 31 (0, 0)) ∧ A.cell? ⟨b, o + k * 18, none⟩ = some (.int .i64 (d : Int)) ∧ A.rangeAt b (o + k * 18 + 1) c2 from ⟨hv.k, hv.want, hcell, rd, rr⟩)
    have HVs := Lib.hid hv; have HK := Lib.hid hk; have HPre := Lib.hid hpre; have HC17' := Lib.hid hc17'; have H2l := Lib.hid h2l
    have hyA := blk_lt hcell
    clear hv hp hpre hcell hheld hget hr0 hr1 hrange rd rr hh2 hH2 hrow hk hxl hc17' h2l
    gi_wp2_with fail
    refine wpIn_region_held (S := fun w => w.heap[W.heap.size + 4]? = some (.cells #[.int .i64 (k : Int)] 3 (0, 0)) ∧ w.heap[W.heap.size + 1]? = some (.cells #[.slice (some ⟨b, o, none⟩) N cv] 39 (0, 0)) ∧ w.heap[y]? = some (.cells c'.toArray 31 (0, 0)) ∧ w.cell? ⟨b, o + k * 18, none⟩ = some (.int .i64 (d : Int)) ∧ w.rangeAt b (o + k * 18 + 1) c2) (by kernel_rfl) (by kernel_rfl) (by rintro ⟨a, w, h⟩; exact h) HSS.out (fun hHeld => ?_)
    refine wpAnyH_take (i := 0) (v := .int .i64 (k : Int)) rfl (by kernel_rfl) (by kernel_rfl) (by kernel_rfl) (fun _ _ _ h => h) (Or.inl ⟨by rfl, fun w hSw => by (have ck := blk_cell hSw.1 0); go_simp⟩) hHeld ?_
    try simp only [Act.put, List.getElem_toArray, List.getElem_cons_zero, List.setIfInBounds_toArray, List.set_cons_zero, List.set_cons_succ]
    refine wpAnyH_take (i := 1) (v := .slice (some ⟨b, o, none⟩) N cv) rfl (by kernel_rfl) (by kernel_rfl) (by kernel_rfl) (fun _ _ _ h => h) (Or.inl ⟨by rfl, fun w hSw => by (have cw := blk_cell hSw.2.1 0); go_simp⟩) hHeld ?_
    try simp only [Act.put, List.getElem_toArray, List.getElem_cons_zero, List.getElem_cons_succ, List.setIfInBounds_toArray, List.set_cons_zero, List.set_cons_succ]
    refine wpAnyH_take (i := 2) (v := .int .i64 (N : Int)) rfl (by kernel_rfl) (by kernel_rfl) (by kernel_rfl) (fun _ _ _ h => h) (Or.inl ⟨by rfl, fun w hSw => by (skip); go_simp⟩) hHeld ?_
    try simp only [Act.put, List.getElem_toArray, List.getElem_cons_zero, List.getElem_cons_succ, List.setIfInBounds_toArray, List.set_cons_zero, List.set_cons_succ]
    refine wpAnyH_take (i := 3) (v := .bool false) rfl (by kernel_rfl) (by kernel_rfl) (by kernel_rfl) (fun _ _ _ h => h) (Or.inl ⟨by rfl, fun w hSw => by (skip); go_simp⟩) hHeld ?_
    try simp only [Act.put, List.getElem_toArray, List.getElem_cons_zero, List.getElem_cons_succ, List.setIfInBounds_toArray, List.set_cons_zero, List.set_cons_succ]
    refine wpAnyH_take (i := 4) (v := .bool false) rfl (by kernel_rfl) (by kernel_rfl) (by kernel_rfl) (fun _ _ _ h => h) (Or.inl ⟨by rfl, fun w hSw => by (skip); go_simp⟩) hHeld ?_
    try simp only [Act.put, List.getElem_toArray, List.getElem_cons_zero, List.getElem_cons_succ, List.setIfInBounds_toArray, List.set_cons_zero, List.set_cons_succ]
    refine wpAnyH_take (i := 5) (v := .int .i64 (d : Nat)) rfl (by kernel_rfl) (by kernel_rfl) (by kernel_rfl) (fun _ _ _ h => h) (Or.inl ⟨by rfl, fun w hSw => by (skip); go_simp⟩) hHeld ?_
    try simp only [Act.put, List.getElem_toArray, List.getElem_cons_zero, List.getElem_cons_succ, List.setIfInBounds_toArray, List.set_cons_zero, List.set_cons_succ]
    refine wpAnyH_take (i := 6) (v := .slice (some ⟨b, o, none⟩) N cv) rfl (by kernel_rfl) (by kernel_rfl) (by kernel_rfl) (fun _ _ _ h => h) (Or.inl ⟨by rfl, fun w hSw => by (have cw := blk_cell hSw.2.1 0); go_simp⟩) hHeld ?_
    try simp only [Act.put, List.getElem_toArray, List.getElem_cons_zero, List.getElem_cons_succ, List.setIfInBounds_toArray, List.set_cons_zero, List.set_cons_succ]
    refine wpAnyH_take (i := 7) (v := .int .i64 (k : Int)) rfl (by kernel_rfl) (by kernel_rfl) (by kernel_rfl) (fun _ _ _ h => h) (Or.inl ⟨by rfl, fun w hSw => by (have ck := blk_cell hSw.1 0); go_simp⟩) hHeld ?_
    try simp only [Act.put, List.getElem_toArray, List.getElem_cons_zero, List.getElem_cons_succ, List.setIfInBounds_toArray, List.set_cons_zero, List.set_cons_succ]
    refine wpAnyH_take (i := 8) (v := .pointer (some ⟨b, o + k * 18, none⟩)) rfl (by kernel_rfl) (by kernel_rfl) (by kernel_rfl) (fun _ _ _ h => h) (Or.inl ⟨by rfl, fun w hSw => by (skip); go_simp⟩) hHeld ?_
    try simp only [Act.put, List.getElem_toArray, List.getElem_cons_zero, List.getElem_cons_succ, List.setIfInBounds_toArray, List.set_cons_zero, List.set_cons_succ]
    refine wpAnyH_take (i := 9) (v := .pointer (some ⟨b, o + k * 18, none⟩)) rfl (by kernel_rfl) (by kernel_rfl) (by kernel_rfl) (fun _ _ _ h => h) (Or.inl ⟨by rfl, fun w hSw => by (skip); go_simp⟩) hHeld ?_
    try simp only [Act.put, List.getElem_toArray, List.getElem_cons_zero, List.getElem_cons_succ, List.setIfInBounds_toArray, List.set_cons_zero, List.set_cons_succ]
    refine wpAnyH_take (i := 10) (v := .int .i64 (d : Nat)) rfl (by kernel_rfl) (by kernel_rfl) (by kernel_rfl) (fun _ _ _ h => h) (Or.inl ⟨by rfl, fun w hSw => by (have cd := hSw.2.2.2.1); go_simp⟩) hHeld ?_
    try simp only [Act.put, List.getElem_toArray, List.getElem_cons_zero, List.getElem_cons_succ, List.setIfInBounds_toArray, List.set_cons_zero, List.set_cons_succ]
    refine wpAnyH_take (i := 11) (v := .bool false) rfl (by kernel_rfl) (by kernel_rfl) (by kernel_rfl) (fun _ _ _ h => h) (Or.inl ⟨by rfl, fun w hSw => by (skip); go_simp⟩) hHeld ?_
    try simp only [Act.put, List.getElem_toArray, List.getElem_cons_zero, List.getElem_cons_succ, List.setIfInBounds_toArray, List.set_cons_zero, List.set_cons_succ]
    refine wpAnyH_take (i := 12) (v := .bool false) rfl (by kernel_rfl) (by kernel_rfl) (by kernel_rfl) (fun _ _ _ h => h) (Or.inl ⟨by rfl, fun w hSw => by (skip); go_simp⟩) hHeld ?_
    try simp only [Act.put, List.getElem_toArray, List.getElem_cons_zero, List.getElem_cons_succ, List.setIfInBounds_toArray, List.set_cons_zero, List.set_cons_succ]
    refine wpAnyH_take (i := 13) (v := .bool false) rfl (by kernel_rfl) (by kernel_rfl) (by kernel_rfl) (fun _ _ _ h => h) (Or.inl ⟨by rfl, fun w hSw => by (skip); go_simp⟩) hHeld ?_
    try simp only [Act.put, List.getElem_toArray, List.getElem_cons_zero, List.getElem_cons_succ, List.setIfInBounds_toArray, List.set_cons_zero, List.set_cons_succ]
    refine wpAnyH_take (i := 14) (v := .pointer (some ⟨y, 0, none⟩)) rfl (by kernel_rfl) (by kernel_rfl) (by kernel_rfl) (fun _ _ _ h => h) (Or.inl ⟨by rfl, fun w hSw => by (skip); go_simp⟩) hHeld ?_
    try simp only [Act.put, List.getElem_toArray, List.getElem_cons_zero, List.getElem_cons_succ, List.setIfInBounds_toArray, List.set_cons_zero, List.set_cons_succ]
    refine wpAnyH_take (i := 15) (v := .int .i64 f.kind) rfl (by kernel_rfl) (by kernel_rfl) (by kernel_rfl) (fun _ _ _ h => h) (Or.inl ⟨by rfl, fun w hSw => by (have cy := (blk_cell hSw.2.2.1 0).trans ((List.getElem?_toArray ..).trans hk0)); go_simp⟩) hHeld ?_
    try simp only [Act.put, List.getElem_toArray, List.getElem_cons_zero, List.getElem_cons_succ, List.setIfInBounds_toArray, List.set_cons_zero, List.set_cons_succ]
    refine wpAnyH_take (i := 16) (v := .slice (some ⟨b, o, none⟩) N cv) rfl (by kernel_rfl) (by kernel_rfl) (by kernel_rfl) (fun _ _ _ h => h) (Or.inl ⟨by rfl, fun w hSw => by (have cw := blk_cell hSw.2.1 0); go_simp⟩) hHeld ?_
    try simp only [Act.put, List.getElem_toArray, List.getElem_cons_zero, List.getElem_cons_succ, List.setIfInBounds_toArray, List.set_cons_zero, List.set_cons_succ]
    refine wpAnyH_take (i := 17) (v := .int .i64 (k : Int)) rfl (by kernel_rfl) (by kernel_rfl) (by kernel_rfl) (fun _ _ _ h => h) (Or.inl ⟨by rfl, fun w hSw => by (have ck := blk_cell hSw.1 0); go_simp⟩) hHeld ?_
    try simp only [Act.put, List.getElem_toArray, List.getElem_cons_zero, List.getElem_cons_succ, List.setIfInBounds_toArray, List.set_cons_zero, List.set_cons_succ]
    refine wpAnyH_take (i := 18) (v := .pointer (some ⟨b, o + k * 18, none⟩)) rfl (by kernel_rfl) (by kernel_rfl) (by kernel_rfl) (fun _ _ _ h => h) (Or.inl ⟨by rfl, fun w hSw => by (skip); go_simp⟩) hHeld ?_
    try simp only [Act.put, List.getElem_toArray, List.getElem_cons_zero, List.getElem_cons_succ, List.setIfInBounds_toArray, List.set_cons_zero, List.set_cons_succ]
    refine wpAnyH_take (i := 19) (v := .pointer (some ⟨b, o + k * 18 + 1, none⟩)) rfl (by kernel_rfl) (by kernel_rfl) (by kernel_rfl) (fun _ _ _ h => h) (Or.inl ⟨by rfl, fun w hSw => by (skip); go_simp⟩) hHeld ?_
    try simp only [Act.put, List.getElem_toArray, List.getElem_cons_zero, List.getElem_cons_succ, List.setIfInBounds_toArray, List.set_cons_zero, List.set_cons_succ]
    refine wpAnyH_take (i := 20) (v := .pointer (some ⟨b, o + k * 18 + 1, none⟩)) rfl (by kernel_rfl) (by kernel_rfl) (by kernel_rfl) (fun _ _ _ h => h) (Or.inl ⟨by rfl, fun w hSw => by (skip); go_simp⟩) hHeld ?_
    try simp only [Act.put, List.getElem_toArray, List.getElem_cons_zero, List.getElem_cons_succ, List.setIfInBounds_toArray, List.set_cons_zero, List.set_cons_succ]
    refine wpAnyH_take (i := 21) (v := .int .i64 f.kind) rfl (by kernel_rfl) (by kernel_rfl) (by kernel_rfl) (fun _ _ _ h => h) (Or.inl ⟨by rfl, fun w hSw => by (have cy : w.cell? ⟨b, o + k * 18 + 1, none⟩ = some (.int .i64 f.kind) := hSw.2.2.2.2 0 _ hk2); go_simp⟩) hHeld ?_
    try simp only [Act.put, List.getElem_toArray, List.getElem_cons_zero, List.getElem_cons_succ, List.setIfInBounds_toArray, List.set_cons_zero, List.set_cons_succ]
    refine wpAnyH_take (i := 22) (v := .bool false) rfl (by kernel_rfl) (by kernel_rfl) (by kernel_rfl) (fun _ _ _ h => h) (Or.inl ⟨by rfl, fun w hSw => by (skip); go_simp⟩) hHeld ?_
    try simp only [Act.put, List.getElem_toArray, List.getElem_cons_zero, List.getElem_cons_succ, List.setIfInBounds_toArray, List.set_cons_zero, List.set_cons_succ]
    refine wpAnyH_take (i := 23) (v := .bool false) rfl (by kernel_rfl) (by kernel_rfl) (by kernel_rfl) (fun _ _ _ h => h) (Or.inl ⟨by rfl, fun w hSw => by (skip); go_simp⟩) hHeld ?_
    try simp only [Act.put, List.getElem_toArray, List.getElem_cons_zero, List.getElem_cons_succ, List.setIfInBounds_toArray, List.set_cons_zero, List.set_cons_succ]
    refine wpAnyH_take (i := 24) (v := .bool false) rfl (by kernel_rfl) (by kernel_rfl) (by kernel_rfl) (fun _ _ _ h => h) (Or.inl ⟨by rfl, fun w hSw => by (skip); go_simp⟩) hHeld ?_
    try simp only [Act.put, List.getElem_toArray, List.getElem_cons_zero, List.getElem_cons_succ, List.setIfInBounds_toArray, List.set_cons_zero, List.set_cons_succ]
    refine wpAnyH_take (i := 25) (v := .agg c'.toArray) rfl (by kernel_rfl) (by kernel_rfl) (by kernel_rfl) (fun _ _ _ h => h) (yieldsIf_load_mid (by rfl) 31 (.tmp 9) rfl y 0 rfl c' _ (fun w hw => range_blk hw.2.2.1) Tryz.underlying31 rfl (by rw [sizeNd, HC17'.out])) hHeld ?_
    try simp only [Act.put, List.getElem_toArray, List.getElem_cons_zero, List.getElem_cons_succ, List.setIfInBounds_toArray, List.set_cons_zero, List.set_cons_succ]
    refine wpAnyH_take (i := 27) (v := .slice (some ⟨b, o, none⟩) N cv) rfl (by kernel_rfl) (by kernel_rfl) (by kernel_rfl) (fun _ _ _ h => h) (Or.inl ⟨by rfl, fun w hSw => by (have cw := blk_cell hSw.2.1 0); go_simp⟩) hHeld ?_
    try simp only [Act.put, List.getElem_toArray, List.getElem_cons_zero, List.getElem_cons_succ, List.setIfInBounds_toArray, List.set_cons_zero, List.set_cons_succ]
    refine wpAnyH_take (i := 28) (v := .int .i64 (k : Int)) rfl (by kernel_rfl) (by kernel_rfl) (by kernel_rfl) (fun _ _ _ h => h) (Or.inl ⟨by rfl, fun w hSw => by (have ck := blk_cell hSw.1 0); go_simp⟩) hHeld ?_
    try simp only [Act.put, List.getElem_toArray, List.getElem_cons_zero, List.getElem_cons_succ, List.setIfInBounds_toArray, List.set_cons_zero, List.set_cons_succ]
    refine wpAnyH_take (i := 29) (v := .pointer (some ⟨b, o + k * 18, none⟩)) rfl (by kernel_rfl) (by kernel_rfl) (by kernel_rfl) (fun _ _ _ h => h) (Or.inl ⟨by rfl, fun w hSw => by (skip); go_simp⟩) hHeld ?_
    try simp only [Act.put, List.getElem_toArray, List.getElem_cons_zero, List.getElem_cons_succ, List.setIfInBounds_toArray, List.set_cons_zero, List.set_cons_succ]
    refine wpAnyH_take (i := 30) (v := .pointer (some ⟨b, o + k * 18 + 1, none⟩)) rfl (by kernel_rfl) (by kernel_rfl) (by kernel_rfl) (fun _ _ _ h => h) (Or.inl ⟨by rfl, fun w hSw => by (skip); go_simp⟩) hHeld ?_
    try simp only [Act.put, List.getElem_toArray, List.getElem_cons_zero, List.getElem_cons_succ, List.setIfInBounds_toArray, List.set_cons_zero, List.set_cons_succ]
    refine wpAnyH_take (i := 31) (v := .agg c2.toArray) rfl (by kernel_rfl) (by kernel_rfl) (by kernel_rfl) (fun _ _ _ h => h) (yieldsIf_load_mid (by rfl) 43 (.tmp 44) rfl b (o + k * 18 + 1) rfl c2 _ (fun w hw => hw.2.2.2.2) Tryz.underlying43 rfl (by rw [R.sizeNd, H2l.out])) hHeld ?_
    try simp only [Act.put, List.getElem_toArray, List.getElem_cons_zero, List.getElem_cons_succ, List.setIfInBounds_toArray, List.set_cons_zero, List.set_cons_succ]
    refine wpAnyH_ready (rs := [26]) (by kernel_rfl) (by simp) (AllReadyH.cons rfl (fun K hK => ?_) AllReadyH.nil)
    rw [if_pos (by rfl)]
    go_simp
    go_at_call 11
    refine (HOf.out _ (Below.refl _ _).drew).mono ?_
    rintro q w1 ⟨c1, rfl, hO1, hb1⟩
    have hb1' : Below A.heap.size A w1 := ((Below.refl A.heap.size A).drew).trans hb1
    refine hK.out _ _ ⟨(hb1'.block _ (by omega)).trans HSS.out.1, (hb1'.block _ (by omega)).trans HSS.out.2.1, (hb1'.block _ hyA).trans HSS.out.2.2.1, (hb1'.cell (p := ⟨b, o + k * 18, none⟩) (World.block_lt_of_cell? A _ HSS.out.2.2.2.1)).trans HSS.out.2.2.2.1, range_keep HSS.out.2.2.2.2 fun h => hb1'.block _ h⟩ (fun hHeld => ?_)
    have HO1 := Lib.hid hO1.any; have HB1 := Lib.hid hb1'
    clear hK K hO1 hb1 hb1'
    try simp only [Act.put, List.getElem_toArray, List.getElem_cons_zero, List.getElem_cons_succ, List.setIfInBounds_toArray, List.set_cons_zero, List.set_cons_succ]
    refine wpAnyH_ready (rs := [32]) (by kernel_rfl) (by simp) (AllReadyH.cons rfl (fun K hK => ?_) AllReadyH.nil)
    rw [if_pos (by rfl)]
    go_simp
    go_at_call 21
    refine (HEq.out w1 c1 HO1.out HB1.out).mono ?_
    rintro q w2 ⟨rfl, hb2⟩
    have hb2' : Below A.heap.size A w2 := HB1.out.trans (hb2.mono HB1.out.size)
    have hv2 := HVs.out.below rfl hb2'
    refine hK.out _ _ ⟨(hb2'.block _ (by omega)).trans HSS.out.1, (hb2'.block _ (by omega)).trans HSS.out.2.1, (hb2'.block _ hyA).trans HSS.out.2.2.1, (hb2'.cell (p := ⟨b, o + k * 18, none⟩) (World.block_lt_of_cell? A _ HSS.out.2.2.2.1)).trans HSS.out.2.2.2.1, range_keep HSS.out.2.2.2.2 fun h => hb2'.block _ h⟩ (fun hHeld => ?_)
    have HB2 := Lib.hid hb2'; have HV2 := Lib.hid hv2
    clear hK K hb2 hb2' hv2
    try simp only [Act.put, List.getElem_toArray, List.getElem_cons_zero, List.getElem_cons_succ, List.setIfInBounds_toArray, List.set_cons_zero, List.set_cons_succ]
    refine wpAnyH_take (i := 33) (v := .bool false) rfl (by kernel_rfl) (by kernel_rfl) (by kernel_rfl) (fun _ _ _ h => h) (Or.inl ⟨by rfl, fun w hSw => by (skip); go_simp⟩) hHeld ?_
    try simp only [Act.put, List.getElem_toArray, List.getElem_cons_zero, List.getElem_cons_succ, List.setIfInBounds_toArray, List.set_cons_zero, List.set_cons_succ]
    refine wpAnyH_take (i := 34) (v := .bool false) rfl (by kernel_rfl) (by kernel_rfl) (by kernel_rfl) (fun _ _ _ h => h) (Or.inl ⟨by rfl, fun w hSw => by (skip); go_simp⟩) hHeld ?_
    try simp only [Act.put, List.getElem_toArray, List.getElem_cons_zero, List.getElem_cons_succ, List.setIfInBounds_toArray, List.set_cons_zero, List.set_cons_succ]
    refine wpAnyH_done (by kernel_rfl) ?_ _
    clear hHeld
    have ck := blk_cell HV2.out.k 0
    have fk := blk_frozen HV2.out.k 0
    have cst := blk_cell HV2.out.stop 0
    have cre := blk_cell HV2.out.res 0
    have fre := blk_frozen HV2.out.res 0
    gi_wp2_with fail
    · have hv3 := HV2.out.setK
      have hv4 := hv3.setR (q := true)
      refine ⟨((keepsFrom_below HB2.out).trans ((KeepsOthers.setCell _ _ _).from _)).trans ((KeepsOthers.setCell _ _ _).from _), rfl, k + 1, hv4⟩
    · have hv3 := HV2.out.setK
      refine ⟨(keepsFrom_below HB2.out).trans ((KeepsOthers.setCell _ _ _).from _), (Kept.of HB2.out).trans ⟨by simp [World.setCell], fun b' _ hlo _ => Below.heap_setCell _ ⟨W.heap.size + 4, 0, none⟩ _ b' ?_⟩, HPre.out, ?_⟩
      · simp at hlo
        show b' ≠ W.heap.size + 4
        omega
      · have e : (pre ++ [(d, Nd.mk f lk)]).length = k + 1 := by rw [List.length_append, HK.out]; rfl
        rw [e]
        exact hv3
  case done =>
    rintro D ys A hD rfl ⟨hp, hv⟩ hK
    rw [HN.out] at hv
    have ck := blk_cell hv.k 0
    have cw := blk_cell hv.want 0
    have cre := blk_cell hv.res 0
    have fre := blk_frozen hv.res 0
    have hD' : W.heap.size + 5 ≤ D := by omega
    have HVs := Lib.hid hv
    clear hv hp
    gi_wp2_with fail
    have hv4 := HVs.out.setR (q := true)
    have hK4 : (A.setCell ⟨W.heap.size + 3, 0, none⟩ (.bool true)).heap[D]? = some (.deferred (some [])) := (Below.heap_setCell A ⟨W.heap.size + 3, 0, none⟩ _ D (by show D ≠ W.heap.size + 3; omega)).trans hK
    exact walked_end rfl hD' hv4 hK4
  case stop =>
    rintro D c' pre A hD hp ⟨rfl, k, hv⟩ hK
    have hD' : W.heap.size + 5 ≤ D := by omega
    gi_wp2_with fail
    exact walked_end rfl hD' hv hK
end Go.Proofs.YtnbgigdloehbjaaGreatDoor.Ir
namespace Go.Proofs.YtnbgigdloehbjaaGreatDoor.Ir
open Go Go.RowKit Go.Proofs.YtnbgigdloehbjaaGreatDoor.Rg Go.Proofs.YtnbgigdloehbjaaGreatDoor.Ma
set_option maxHeartbeats 16000000
set_option maxRecDepth 100000

theorem walks_calls (n : Nd) (W : World) (cs : List Value) (hH : n.Held W Any cs) (stop : Int) : Calls Tryz.prog 4 #[.agg cs.toArray, .int .i64 stop] W (RetB (.bool true) W) := by
  have hl17 := hH.length
  have HL17 := Lib.hid hl17
  clear hl17
  obtain ⟨B, hB⟩ : ∃ B, B = W.alloc (.cells cs.toArray 31) := ⟨_, rfl⟩
  have hbB : Below W.heap.size W B := by rw [hB]; exact (Below.refl _ _).alloc (Nat.le_refl _) _
  have hsB : B.heap.size = W.heap.size + 1 := by rw [hB]; simp
  have hg : B.heap[W.heap.size]? = some (.cells cs.toArray 31 (0, 0)) := by rw [hB]; exact blk_new W _
  have hx := hB.symm
  have HbB := Lib.hid hbB; have Hg := Lib.hid hg; have HH := Lib.hid hH
  clear hB hbB hg hH
  go_enter Tryz.func4, Tryz.ntmps4
  go_wp2_with fail
  clear hx
  refine (known_calls B).mono ?_
  rintro e W1 ⟨rfl, hb1⟩
  have hs1 : W.heap.size + 1 ≤ W1.heap.size := by have := hb1.size; omega
  have Hg1 := Lib.hid ((hb1.block W.heap.size (by omega)).trans Hg.out)
  have Hb1 := Lib.hid (HbB.out.trans (hb1.mono (by omega)))
  clear hb1 HbB Hg hsB
  have hr1 : W1.rangeAt W.heap.size 0 cs := range_blk Hg1.out
  have HR1 := Lib.hid hr1; clear hr1
  go_wp2_with (with_reducible refine wpList_loadNd rfl (.tmp 2) rfl W.heap.size 0 rfl cs HR1.out HL17.out ?_)
  refine (few_calls n W1 cs (Nd.Held.keep (Keeps.below Hb1.out) n HH.out)).mono ?_
  rintro e W2 ⟨fw, rfl, hfw, hb2⟩
  have hs2 : W.heap.size + 1 ≤ W2.heap.size := by have := hb2.size; omega
  have Hg2 := Lib.hid ((hb2.block W.heap.size (by omega)).trans Hg1.out)
  have Hb2 := Lib.hid (Hb1.out.trans (hb2.mono (by omega)))
  have hr2 : W2.rangeAt W.heap.size 0 cs := range_blk Hg2.out
  have HR2 := Lib.hid hr2; clear hr2 hb2 Hg1 Hb1 HR1
  cases fw with
  | false =>
    clear hfw
    go_wp2_with fail
    go_ret
    exact ⟨rfl, Hb2.out⟩
  | true =>
  obtain ⟨hsm, htot⟩ := hfw rfl
  have HSm := Lib.hid hsm
  clear hsm hfw
  have HOf := Lib.hid (Of_calls 1000 n htot (by decide) W2.heap.size W2 cs (Nat.le_refl _) (Nd.Held.keep (fun b' _ hlt => ⟨Hb2.out.block b' hlt, by have := Hb2.out.size; omega⟩) _ HH.out))
  go_wp2_with (with_reducible refine wpList_loadNd rfl (.tmp 2) rfl W.heap.size 0 rfl cs HR2.out HL17.out ?_)
  refine HOf.out.mono ?_
  rintro e W3 ⟨c, rfl, hO3, hb3⟩
  have HC := Lib.hid (list_calls 1000 n htot (by decide) W3.heap.size W3.heap.size (Nat.le_refl _) W3 c (.slice none 0 0) [] [] 1 (Nat.le_refl _) (Nd.Held.keep (fun b' _ hlt => ⟨rfl, hlt⟩) _ hO3) (World.ownsRow_nil _ _ _ _) rfl (by simp; omega) (by omega))
  have Hb3 := Lib.hid (Hb2.out.trans (hb3.mono Hb2.out.size))
  have Hg3 := Lib.hid ((hb3.block W.heap.size (by omega)).trans Hg2.out)
  have hs3 : W.heap.size + 1 ≤ W3.heap.size := by have := hb3.size; omega
  clear hO3 hb3
  go_wp2_with fail
  refine HC.out.mono ?_
  rintro e W4 ⟨v, xs, rfl, hlp⟩
  have hfar : Below W3.heap.size W3 W4 := ⟨hlp.far.os, hlp.far.tape, hlp.far.output, hlp.far.size, fun k hk => hlp.far.block k hk (fun e => by cases e)⟩
  have hlen : ([] ++ n.lst 1).length = (n.lst 1).length := by rw [List.nil_append]
  have hown := hlp.own
  have hrows := hlp.rows
  rw [List.nil_append] at hown hrows
  have hrow := (row_from hown).any (by decide)
  have hra : RowsH W4 Any (n.lst 1) xs := RowsH.keep (fun b _ _ => ⟨rfl, trivial⟩) hrows
  obtain ⟨_, av, cv, rfl, _⟩ := id hrow
  have Hb4 := Lib.hid (Hb3.out.trans (hfar.mono Hb3.out.size))
  have Hg4 := Lib.hid ((hfar.block W.heap.size (by omega)).trans Hg3.out)
  have hs4 : W.heap.size + 1 ≤ W4.heap.size := by have := hfar.size; omega
  have HRow := Lib.hid hrow; have HRa := Lib.hid hra
  have HH4 := Lib.hid (HH.out.below Hb4.out)
  have HW1 := Lib.hid (walked_calls n htot HSm.out W4 cs (.slice av (n.lst 1).length cv) xs (((n.lst 1).length : Nat) : Int) HH4.out hrow hra)
  clear hlp hfar hlen hown hrows hrow hra HR2
  obtain ⟨N, hN⟩ : ∃ N, (n.lst 1).length = N := ⟨_, rfl⟩
  rw [hN] at HRow HW1 ⊢
  have HN := Lib.hid hN
  clear hN
  have hr4 : W4.rangeAt W.heap.size 0 cs := range_blk Hg4.out
  have HR4 := Lib.hid hr4; clear hr4
  go_wp2_with (first | (with_reducible refine wpList_loadNd rfl (.tmp 2) rfl W.heap.size 0 rfl cs HR4.out HL17.out ?_) | (with_reducible refine wpList_loadNdW (.tmp 2) rfl W.heap.size 0 rfl cs HR4.out HL17.out (by simp [Region.wanted, yielded]) ?_))
  refine HW1.out.mono ?_
  rintro e W5 ⟨rfl, hb5⟩
  have Hb5 := Lib.hid (Hb4.out.trans (hb5.mono Hb4.out.size))
  have hr5 : W5.rangeAt W.heap.size 0 cs := range_blk ((hb5.block W.heap.size (by omega)).trans Hg4.out)
  have HR5 := Lib.hid hr5
  have HW2 := Lib.hid (walked_calls n htot HSm.out W5 cs (.slice av N cv) xs stop (HH4.out.below hb5) (by rw [HN.out]; exact HRow.out.keep (by decide) (Keeps.below hb5)) (RowsH.keep (fun b _ hlt => ⟨hb5.block b hlt, trivial⟩) HRa.out))
  clear hr5 hb5
  go_wp2_with (with_reducible refine wpList_loadNdW (.tmp 2) rfl W.heap.size 0 rfl cs HR5.out HL17.out (by simp [Region.wanted, yielded]) ?_)
  refine HW2.out.mono ?_
  rintro e W6 ⟨rfl, hb6⟩
  have Hb6 := Lib.hid (Hb5.out.trans (hb6.mono Hb5.out.size))
  clear hb6
  go_wp2_with fail
  go_ret
  exact ⟨rfl, Hb6.out⟩
end Go.Proofs.YtnbgigdloehbjaaGreatDoor.Ir
