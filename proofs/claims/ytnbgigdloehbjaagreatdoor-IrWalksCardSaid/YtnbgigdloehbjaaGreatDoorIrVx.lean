/-
  Plans that are the same (ir.same): rows, groupings.
  Plans that are the same (ir.same, ir.Same).
  Whether two plans are the same (ir.Same): what is known of it.
-/
import Derived.Test.YtnbgigdloehbjaaGreatDoorIrRx
import Derived.WalkLawsBesides
namespace Go.Proofs.YtnbgigdloehbjaaGreatDoor.Ir
open Go Go.RowKit Go.Proofs.YtnbgigdloehbjaaGreatDoor.Rg Go.Proofs.YtnbgigdloehbjaaGreatDoor.Ma
set_option maxHeartbeats 8000000
set_option maxRecDepth 100000

theorem equalS_calls (v1 v2 : Value) (l : List ByteArray) (W : World) (h1 : Row W Any v1 l.length 1 (scells l)) (h2 : Row W Any v2 l.length 1 (scells l)) (hl : l.length ≤ 100000) :
    Calls Tryz.prog 58 #[v1, v2] W (RetB (.bool true) W) := by
  obtain ⟨_, a1, cap1, rfl, _⟩ := id h1
  obtain ⟨_, a2, cap2, rfl, _⟩ := id h2
  have H1 := Lib.hid h1; have H2 := Lib.hid h2; clear h1 h2
  go_enter Tryz.func58, Tryz.ntmps58
  go_wp2_with fail
  go_loopw [13] (fun i wr => ∃ k : Nat, k ≤ l.length ∧ i = .int .i64 (k : Int) ∧ Below W.heap.size W wr) (fun i _ => l.length - (intOf i).toNat)
  case atStart => exact ⟨0, Nat.zero_le _, rfl, Below.refl _ _⟩
  case round =>
    obtain ⟨k, hk, rfl, hbel⟩ := hrel
    by_cases hkl : k < l.length
    · obtain ⟨b1, o1, ha1, t1, ht1, hc1⟩ := str_at (H1.out.keep (by decide) (Keeps.below hbel)) hkl
      obtain ⟨b2, o2, ha2, t2, ht2, hc2⟩ := str_at (H2.out.keep (by decide) (Keeps.below hbel)) hkl
      subst ha1 ha2
      have ht : t2 = t1 := by rw [ht1] at ht2; exact (Option.some.inj ht2).symm
      subst ht
      clear ht1 ht2
      have HBel := Lib.hid hbel; clear hbel
      go_wp2_with fail
      go_quiet (fail)
      go_wp2_with fail
      go_roundw
      case rel => exact ⟨k + 1, by omega, by go_num, below_drewN HBel.out _⟩
      case measure => (simp [intOf] <;> omega)
    · have HBel := Lib.hid hbel; clear hbel
      go_wp2_with fail
      go_ret
      exact ⟨rfl, HBel.out⟩
theorem mat_at {W : World} {v : Value} {l : List Mr} (h : Row W Any v l.length 3 (mcells l)) {k : Nat} (hk : k < l.length) :
    ∃ b o cap, v = .slice (some ⟨b, o, none⟩) l.length cap ∧ ∃ m, l[k]? = some m ∧ W.cell? ⟨b, o + k * 3, none⟩ = some (.int .i64 m.kind) ∧ W.cell? ⟨b, o + k * 3 + 1, none⟩ = some (.string m.name) ∧ W.cell? ⟨b, o + k * 3 + 2, none⟩ = some (.string m.value) := by
  obtain ⟨ao, cap, rfl, hc⟩ := (rowM_of h).val
  obtain ⟨b, o, rfl, hm⟩ := hc (by omega)
  have hi : l[k]? = some l[k] := List.getElem?_eq_getElem hk
  exact ⟨b, o, cap, rfl, _, hi, hm k _ hi⟩
theorem equalM_calls (v1 v2 : Value) (l : List Mr) (W : World) (h1 : Row W Any v1 l.length 3 (mcells l)) (h2 : Row W Any v2 l.length 3 (mcells l)) (hl : l.length ≤ 100000) :
    Calls Tryz.prog 56 #[v1, v2] W (RetB (.bool true) W) := by
  obtain ⟨_, a1, cap1, rfl, _⟩ := id h1
  obtain ⟨_, a2, cap2, rfl, _⟩ := id h2
  have H1 := Lib.hid h1; have H2 := Lib.hid h2; clear h1 h2
  go_enter Tryz.func56, Tryz.ntmps56
  go_wp2_with fail
  go_loopw [13] (fun i wr => ∃ k : Nat, k ≤ l.length ∧ i = .int .i64 (k : Int) ∧ Below W.heap.size W wr) (fun i _ => l.length - (intOf i).toNat)
  case atStart => exact ⟨0, Nat.zero_le _, rfl, Below.refl _ _⟩
  case round =>
    obtain ⟨k, hk, rfl, hbel⟩ := hrel
    by_cases hkl : k < l.length
    · obtain ⟨b1, o1, c1, ha1, t1, ht1, p0, p1, p2⟩ := mat_at (H1.out.keep (by decide) (Keeps.below hbel)) hkl
      obtain ⟨b2, o2, c2, ha2, t2, ht2, q0, q1, q2⟩ := mat_at (H2.out.keep (by decide) (Keeps.below hbel)) hkl
      simp only [Value.slice.injEq, true_and] at ha1 ha2
      obtain ⟨rfl, rfl⟩ := ha1
      obtain ⟨rfl, rfl⟩ := ha2
      have ht : t2 = t1 := by rw [ht1] at ht2; exact (Option.some.inj ht2).symm
      subst ht
      clear ht1 ht2
      have HBel := Lib.hid hbel; clear hbel
      go_wp2_with fail
      go_quiet (fail)
      go_wp2_with fail
      go_roundw
      case rel => exact ⟨k + 1, by omega, by go_num, below_drewN HBel.out _⟩
      case measure => (simp [intOf] <;> omega)
    · have HBel := Lib.hid hbel; clear hbel
      go_wp2_with fail
      go_ret
      exact ⟨rfl, HBel.out⟩
theorem sameGroup_calls (how : Int) (v1 v2 : Value) (l : List ByteArray) (W : World) (h1 : Row W Any v1 l.length 1 (scells l)) (h2 : Row W Any v2 l.length 1 (scells l)) (hl : l.length ≤ 100000) :
    Calls Tryz.prog 57 #[.agg #[.int .i64 how, v1], .agg #[.int .i64 how, v2]] W (RetB (.bool true) W) := by
  obtain ⟨_, a1, cap1, rfl, _⟩ := id h1
  obtain ⟨_, a2, cap2, rfl, _⟩ := id h2
  have hb : Below W.heap.size W ((W.alloc (.cells #[.int .i64 how, .slice a1 l.length cap1] 26)).alloc (.cells #[.int .i64 how, .slice a2 l.length cap2] 26)) := ((Below.refl _ _).alloc (Nat.le_refl _) _).alloc (by simp) _
  have HB := Lib.hid hb
  have HE := Lib.hid (equalS_calls _ _ l _ (h1.keep (by decide) (Keeps.below hb)) (h2.keep (by decide) (Keeps.below hb)) hl)
  clear h1 h2 hb
  go_enter Tryz.func57, Tryz.ntmps57
  go_wp2_with fail
  (with_reducible refine HE.out.mono ?_)
  rintro e W1 ⟨rfl, hb1⟩
  have HB1 := Lib.hid (HB.out.trans (hb1.mono HB.out.size)); clear hb1
  go_wp2_with fail
  go_ret
  exact ⟨rfl, HB1.out⟩
theorem run_tobits (x : Nat) (w : World) : (callFunc 96 #[.float .f64 x]).run Tryz.prog w = .ok (.value (.int .u64 x)) w := by
  rw [run_callFunc_standIn (e := Extern.MathFloatBits.float64bits) Tryz.func96 (by kernel_rfl) (by kernel_rfl) (by kernel_rfl) (by kernel_rfl)]
  rfl
theorem canon0_calls (w : World) : Calls Tryz.prog 60 #[.float .f64 0] w fun e w' => e = .returned (.float .f64 0) ∧ w = w' := by
  have o1 : FloatKind.f64.format.order 0 0 = some .eq := by decide +kernel
  go_enter Tryz.func60, Tryz.ntmps60
  go_wp2
  go_ret
  exact ⟨rfl, rfl⟩
theorem bits0_calls (w : World) : Calls Tryz.prog 79 #[.float .f64 0] w fun e w' => e = .returned (.int .u64 0) ∧ w = w' := by
  have hx := run_tobits
  go_enter Tryz.func79, Tryz.ntmps79
  go_wp2_with ((with_reducible refine (canon0_calls _).mono ?_); rintro e w' ⟨rfl, rfl⟩)
  go_ret
  exact ⟨rfl, rfl⟩
theorem same0_calls (w : World) : Calls Tryz.prog 55 #[.float .f64 0, .float .f64 0] w fun e w' => e = .returned (.bool true) ∧ w = w' := by
  go_enter Tryz.func55, Tryz.ntmps55
  go_wp2_with ((with_reducible refine (bits0_calls _).mono ?_); rintro e w' ⟨rfl, rfl⟩)
  go_ret
  exact ⟨rfl, rfl⟩
end Go.Proofs.YtnbgigdloehbjaaGreatDoor.Ir
namespace Go.Proofs.YtnbgigdloehbjaaGreatDoor.Ir
open Go Go.RowKit Go.Proofs.YtnbgigdloehbjaaGreatDoor.Rg Go.Proofs.YtnbgigdloehbjaaGreatDoor.Ma
set_option maxHeartbeats 8000000
set_option maxRecDepth 100000

/-- A node into a variable that is new. -/
theorem wpList_setNewNd {ops : Array Oper} {rest : List Oper} {op : Oper} {a : Act} {w : World} {Q : Exit → Act → World → Prop} (hgd : op.guard = none) (x y : Operand) (ho : op.op = .store 31 x y)
    (c : List Value) (hx : a.eval x = .pointer (some ⟨w.heap.size, 0, none⟩)) (hy : a.eval y = .agg c.toArray) (hl : c.length = 17) (hone : ∀ u ∈ c, u.oneCell' = true)
    (h : wpList Tryz.prog ops Q rest (a.put op.dst undef) (w.alloc (.cells c.toArray 31))) : wpList Tryz.prog ops Q (op :: rest) a (w.alloc (.cells #[.int .i64 0, .float .f64 0, .int .i64 0, .slice none 0 0, .int .i64 0, .int .i64 0, .int .i64 0, .int .i64 0, .slice none 0 0, .int .i64 0, .slice none 0 0, .int .i64 0, .slice none 0 0, .bool false, .string ⟨#[]⟩, .string ⟨#[]⟩, .slice none 0 0] 31)) :=
  wpList_setNd hgd x y ho w.heap.size zcl c (blk_new w _) rfl hx hy hl hone (by rw [World.setRow_alloc_new]; exact h)
mutual
/-- No node has a number but 0. -/
def Nd.Zr : Nd → Prop
  | .mk f l => f.num = 0 ∧ l.Zr
def Kd.Zr : Kd → Prop
  | .nil => True
  | .snoc l n => l.Zr ∧ n.Zr
end
theorem Kd.Zr.kid : ∀ {l : Kd} {k : Nat} {n : Nd}, l.Zr → l.kids[k]? = some n → n.Zr
  | .nil, k, n, _, h => by simp [Kd.kids] at h
  | .snoc l m, k, n, hs, h => by
    rw [Kd.Zr] at hs
    rw [Kd.kids] at h
    by_cases hk : k < l.kids.length
    · rw [List.getElem?_append_left hk] at h
      exact Kd.Zr.kid hs.1 h
    · rw [List.getElem?_append_right (by omega)] at h
      have hm := List.mem_of_getElem? h
      simp at hm
      subst hm
      exact hs.2
abbrev SameC (N : Nat) : Prop := ∀ n : Nd, n.tot ≤ N → n.Sm → n.Zr → ∀ (W : World) (c1 c2 : List Value), n.Held W Any c1 → n.Held W Any c2 → Calls Tryz.prog 32 #[.agg c1.toArray, .agg c2.toArray] W (RetB (.bool true) W)
theorem equalF_calls {N : Nat} (ih : SameC N) (hN : N ≤ 100000) (l : Kd) (hlN : l.tot ≤ N) (hS : l.Sm) (hZ : l.Zr) (W : World) (a1 a2 : Option Addr) (cap1 cap2 : Nat) (ls1 ls2 : List Value)
    (hl1 : l.Held W Any ls1) (hK1 : Row W Any (.slice a1 l.len cap1) l.len 17 ls1) (hl2 : l.Held W Any ls2) (hK2 : Row W Any (.slice a2 l.len cap2) l.len 17 ls2) :
    Calls Tryz.prog 59 #[.slice a1 l.len cap1, .slice a2 l.len cap2, .func (.func 32) #[] #[]] W (RetB (.bool true) W) := by
  have hlen := l.len_tot
  have HIH := Lib.hid ih; have HS := Lib.hid hS; have HZ := Lib.hid hZ
  have HL1 := Lib.hid hl1; have HK1 := Lib.hid hK1; have HL2 := Lib.hid hl2; have HK2 := Lib.hid hK2
  clear ih hS hZ hl1 hK1 hl2 hK2
  go_enter Tryz.func59, Tryz.ntmps59
  go_wp2_with fail
  go_loopw [17] (fun i wr => ∃ k : Nat, k ≤ l.len ∧ i = .int .i64 (k : Int) ∧ Below W.heap.size W wr) (fun i _ => l.len - (intOf i).toNat)
  case atStart => exact ⟨0, Nat.zero_le _, rfl, Below.refl _ _⟩
  case round =>
    obtain ⟨k, hk, rfl, hbel⟩ := hrel
    by_cases hkl : k < l.len
    · obtain ⟨b, o, ha, n1, c, hn1, hat, hH1⟩ := kid_at (HL1.out.keep (Keeps.below hbel)) (HK1.out.keep (by decide) (Keeps.below hbel)) hkl
      obtain ⟨b2, o2, ha2, n2, d, hn2, hat2, hH2⟩ := kid_at (HL2.out.keep (Keeps.below hbel)) (HK2.out.keep (by decide) (Keeps.below hbel)) hkl
      subst ha ha2
      have hnn : n2 = n1 := by rw [hn1] at hn2; exact (Option.some.inj hn2).symm
      subst hnn
      have ht1 := Kd.tot_kid hn1
      have hc17 := hH1.length
      have hd17 := hH2.length
      have HC1 := Lib.hid hH1.one; have HD1 := Lib.hid hH2.one
      have HAt := Lib.hid hat
      have hat2' : (wr.alloc (.cells c.toArray 31)).rangeAt b2 (o2 + k * 17) d := range_keep hat2 fun h => Below.heap_alloc _ _ _ h
      have HAt2 := Lib.hid hat2'
      have hbb : Below wr.heap.size wr ((wr.alloc (.cells c.toArray 31)).alloc (.cells d.toArray 31)) := ((Below.refl _ _).alloc (Nat.le_refl _) _).alloc (by simp) _
      have HCall := Lib.hid (HIH.out n2 (by omega) (HS.out.kid hn1) (HZ.out.kid hn1) _ c d (hH1.below hbb) (hH2.below hbb))
      have HBb := Lib.hid hbb
      have HBel := Lib.hid hbel
      have hwsz := hbel.size
      clear hn1 hn2 hat hat2 hat2' hH1 hH2 hbb hbel
      go_wp2_with (first | (with_reducible refine wpList_loadNd rfl _ rfl b (o + k * 17) rfl c HAt.out hc17 ?_) | (with_reducible refine wpList_setNewNd rfl _ _ rfl c rfl rfl hc17 HC1.out ?_) | (with_reducible refine wpList_loadNd rfl _ rfl b2 (o2 + k * 17) rfl d HAt2.out hd17 ?_) | (with_reducible refine wpList_newNd rfl rfl 9 (.tmp 25) rfl rfl rfl rfl d rfl rfl hd17 HD1.out ?_) | (with_reducible refine wpList_loadNd rfl _ rfl wr.heap.size 0 rfl c (range_blk (blk_alloc (blk_new wr _) _)) hc17 ?_) | (with_reducible refine wpList_loadNd rfl _ rfl (wr.heap.size + 1) 0 rfl d (range_blk (blk_new2 wr _ _)) hd17 ?_))
      (with_reducible refine HCall.out.mono ?_)
      rintro e W1 ⟨rfl, hb1⟩
      have HB1 := Lib.hid (HBel.out.trans ((HBb.out.trans (hb1.mono HBb.out.size)).mono hwsz)); clear hb1
      go_wp2_with fail
      go_roundw
      case rel => exact ⟨k + 1, by omega, by go_num, HB1.out⟩
      case measure => (simp [intOf] <;> omega)
    · have HBel := Lib.hid hbel; clear hbel
      go_wp2_with fail
      go_ret
      exact ⟨rfl, HBel.out⟩
theorem same_calls : ∀ N : Nat, N ≤ 100000 → SameC N := by
  intro N
  induction N with
  | zero => intro _ n hn; have := n.tot_pos; omega
  | succ N ih =>
    rintro hN ⟨f, l⟩ hn hs hz W c1 c2 hH1 hH2
    rw [Nd.tot] at hn
    rw [Nd.Sm] at hs
    rw [Nd.Zr] at hz
    obtain ⟨vM1, vG1, vX1, vI1, aK1, cK1, ls1, hcs1, hf1, hl1, hK1⟩ := hH1.open
    obtain ⟨_, aM1, cM1, rfl, _⟩ := id hf1.m
    obtain ⟨_, aG1, cG1, rfl, _⟩ := id hf1.g
    obtain ⟨_, aX1, cX1, rfl, _⟩ := id hf1.x
    obtain ⟨_, aI1, cI1, rfl, _⟩ := id hf1.i
    have k1_0 : c1[0]? = some (.int .i64 f.kind) := by rw [hcs1]; first | rfl | (simp [hz.1])
    have k1_1 : c1[1]? = some (.float .f64 0) := by rw [hcs1]; first | rfl | (simp [hz.1])
    have k1_2 : c1[2]? = some (.int .i64 f.fn) := by rw [hcs1]; first | rfl | (simp [hz.1])
    have k1_3 : c1[3]? = some (.slice aM1 f.m.length cM1) := by rw [hcs1]; first | rfl | (simp [hz.1])
    have k1_4 : c1[4]? = some (.int .i64 f.range) := by rw [hcs1]; first | rfl | (simp [hz.1])
    have k1_5 : c1[5]? = some (.int .i64 f.step) := by rw [hcs1]; first | rfl | (simp [hz.1])
    have k1_6 : c1[6]? = some (.int .i64 f.offset) := by rw [hcs1]; first | rfl | (simp [hz.1])
    have k1_7 : c1[7]? = some (.int .i64 f.ghow) := by rw [hcs1]; first | rfl | (simp [hz.1])
    have k1_8 : c1[8]? = some (.slice aG1 f.gn.length cG1) := by rw [hcs1]; first | rfl | (simp [hz.1])
    have k1_9 : c1[9]? = some (.int .i64 f.xhow) := by rw [hcs1]; first | rfl | (simp [hz.1])
    have k1_10 : c1[10]? = some (.slice aX1 f.xn.length cX1) := by rw [hcs1]; first | rfl | (simp [hz.1])
    have k1_11 : c1[11]? = some (.int .i64 f.card) := by rw [hcs1]; first | rfl | (simp [hz.1])
    have k1_12 : c1[12]? = some (.slice aI1 f.incl.length cI1) := by rw [hcs1]; first | rfl | (simp [hz.1])
    have k1_13 : c1[13]? = some (.bool f.flag) := by rw [hcs1]; first | rfl | (simp [hz.1])
    have k1_14 : c1[14]? = some (.string f.name) := by rw [hcs1]; first | rfl | (simp [hz.1])
    have k1_15 : c1[15]? = some (.string f.value) := by rw [hcs1]; first | rfl | (simp [hz.1])
    have k1_16 : c1[16]? = some (.slice aK1 l.len cK1) := by rw [hcs1]; first | rfl | (simp [hz.1])
    have HF1 := Lib.hid hf1; have HL1 := Lib.hid hl1; have HK1 := Lib.hid hK1
    obtain ⟨vM2, vG2, vX2, vI2, aK2, cK2, ls2, hcs2, hf2, hl2, hK2⟩ := hH2.open
    obtain ⟨_, aM2, cM2, rfl, _⟩ := id hf2.m
    obtain ⟨_, aG2, cG2, rfl, _⟩ := id hf2.g
    obtain ⟨_, aX2, cX2, rfl, _⟩ := id hf2.x
    obtain ⟨_, aI2, cI2, rfl, _⟩ := id hf2.i
    have k2_0 : c2[0]? = some (.int .i64 f.kind) := by rw [hcs2]; first | rfl | (simp [hz.1])
    have k2_1 : c2[1]? = some (.float .f64 0) := by rw [hcs2]; first | rfl | (simp [hz.1])
    have k2_2 : c2[2]? = some (.int .i64 f.fn) := by rw [hcs2]; first | rfl | (simp [hz.1])
    have k2_3 : c2[3]? = some (.slice aM2 f.m.length cM2) := by rw [hcs2]; first | rfl | (simp [hz.1])
    have k2_4 : c2[4]? = some (.int .i64 f.range) := by rw [hcs2]; first | rfl | (simp [hz.1])
    have k2_5 : c2[5]? = some (.int .i64 f.step) := by rw [hcs2]; first | rfl | (simp [hz.1])
    have k2_6 : c2[6]? = some (.int .i64 f.offset) := by rw [hcs2]; first | rfl | (simp [hz.1])
    have k2_7 : c2[7]? = some (.int .i64 f.ghow) := by rw [hcs2]; first | rfl | (simp [hz.1])
    have k2_8 : c2[8]? = some (.slice aG2 f.gn.length cG2) := by rw [hcs2]; first | rfl | (simp [hz.1])
    have k2_9 : c2[9]? = some (.int .i64 f.xhow) := by rw [hcs2]; first | rfl | (simp [hz.1])
    have k2_10 : c2[10]? = some (.slice aX2 f.xn.length cX2) := by rw [hcs2]; first | rfl | (simp [hz.1])
    have k2_11 : c2[11]? = some (.int .i64 f.card) := by rw [hcs2]; first | rfl | (simp [hz.1])
    have k2_12 : c2[12]? = some (.slice aI2 f.incl.length cI2) := by rw [hcs2]; first | rfl | (simp [hz.1])
    have k2_13 : c2[13]? = some (.bool f.flag) := by rw [hcs2]; first | rfl | (simp [hz.1])
    have k2_14 : c2[14]? = some (.string f.name) := by rw [hcs2]; first | rfl | (simp [hz.1])
    have k2_15 : c2[15]? = some (.string f.value) := by rw [hcs2]; first | rfl | (simp [hz.1])
    have k2_16 : c2[16]? = some (.slice aK2 l.len cK2) := by rw [hcs2]; first | rfl | (simp [hz.1])
    have HF2 := Lib.hid hf2; have HL2 := Lib.hid hl2; have HK2 := Lib.hid hK2
    have HIH := Lib.hid (ih (by omega)); have HS := Lib.hid hs; have HZ := Lib.hid hz
    clear hH1 hH2 hcs1 hcs2 hf1 hl1 hK1 hf2 hl2 hK2 hs hz ih
    obtain ⟨B, hB⟩ : ∃ B, B = (W.alloc (.cells c1.toArray 31)).alloc (.cells c2.toArray 31) := ⟨_, rfl⟩
    have hbB : Below W.heap.size W B := by rw [hB]; exact ((Below.refl _ _).alloc (Nat.le_refl _) _).alloc (by simp) _
    have hsB : B.heap.size = W.heap.size + 2 := by rw [hB]; simp
    have hg1 : B.heap[W.heap.size]? = some (.cells c1.toArray 31 (0, 0)) := by rw [hB]; exact blk_alloc (blk_new W _) _
    have hg2 : B.heap[W.heap.size + 1]? = some (.cells c2.toArray 31 (0, 0)) := by rw [hB]; exact blk_new2 W _ _
    have na : ∀ j, B.cell? ⟨W.heap.size, j, none⟩ = c1[j]? := fun j => (blk_cell hg1 j).trans (List.getElem?_toArray ..)
    have nb : ∀ j, B.cell? ⟨W.heap.size + 1, j, none⟩ = c2[j]? := fun j => (blk_cell hg2 j).trans (List.getElem?_toArray ..)
    have HbB := Lib.hid hbB; have HG1 := Lib.hid hg1; have HG2 := Lib.hid hg2
    have hx := hB.symm
    clear hB hbB hg1 hg2
    go_enter Tryz.func32, Tryz.ntmps32
    go_wp2_with (first | ((with_reducible refine (same0_calls _).mono ?_); rintro e w9 ⟨rfl, rfl⟩))
    clear hx
    refine (equalM_calls _ _ f.m _ (HF1.out.m.keep (by decide) (Keeps.below HbB.out)) (HF2.out.m.keep (by decide) (Keeps.below HbB.out)) (by have := HS.out.1.m; omega)).mono ?_
    rintro e W1 ⟨rfl, hb⟩
    have hs1 : W.heap.size + 2 ≤ W1.heap.size := by have := hb.size; omega
    have hg1 : W1.heap[W.heap.size]? = some (.cells c1.toArray 31 (0, 0)) := (hb.block _ (by omega)).trans HG1.out
    have hg2 : W1.heap[W.heap.size + 1]? = some (.cells c2.toArray 31 (0, 0)) := (hb.block _ (by omega)).trans HG2.out
    replace na : ∀ j, W1.cell? ⟨W.heap.size, j, none⟩ = c1[j]? := fun j => (blk_cell hg1 j).trans (List.getElem?_toArray ..)
    replace nb : ∀ j, W1.cell? ⟨W.heap.size + 1, j, none⟩ = c2[j]? := fun j => (blk_cell hg2 j).trans (List.getElem?_toArray ..)
    replace HG1 := Lib.hid hg1
    replace HG2 := Lib.hid hg2
    replace HbB := Lib.hid (HbB.out.trans (hb.mono (by omega)))
    clear hb hg1 hg2
    go_wp2_with fail
    refine (sameGroup_calls f.ghow _ _ f.gn _ (HF1.out.g.keep (by decide) (Keeps.below HbB.out)) (HF2.out.g.keep (by decide) (Keeps.below HbB.out)) HS.out.1.g).mono ?_
    rintro e W2 ⟨rfl, hb⟩
    have hs2 : W.heap.size + 2 ≤ W2.heap.size := by have := hb.size; omega
    have hg1 : W2.heap[W.heap.size]? = some (.cells c1.toArray 31 (0, 0)) := (hb.block _ (by omega)).trans HG1.out
    have hg2 : W2.heap[W.heap.size + 1]? = some (.cells c2.toArray 31 (0, 0)) := (hb.block _ (by omega)).trans HG2.out
    replace na : ∀ j, W2.cell? ⟨W.heap.size, j, none⟩ = c1[j]? := fun j => (blk_cell hg1 j).trans (List.getElem?_toArray ..)
    replace nb : ∀ j, W2.cell? ⟨W.heap.size + 1, j, none⟩ = c2[j]? := fun j => (blk_cell hg2 j).trans (List.getElem?_toArray ..)
    replace HG1 := Lib.hid hg1
    replace HG2 := Lib.hid hg2
    replace HbB := Lib.hid (HbB.out.trans (hb.mono (by omega)))
    clear hb hg1 hg2
    go_wp2_with fail
    refine (sameGroup_calls f.xhow _ _ f.xn _ (HF1.out.x.keep (by decide) (Keeps.below HbB.out)) (HF2.out.x.keep (by decide) (Keeps.below HbB.out)) HS.out.1.x).mono ?_
    rintro e W3 ⟨rfl, hb⟩
    have hs3 : W.heap.size + 2 ≤ W3.heap.size := by have := hb.size; omega
    have hg1 : W3.heap[W.heap.size]? = some (.cells c1.toArray 31 (0, 0)) := (hb.block _ (by omega)).trans HG1.out
    have hg2 : W3.heap[W.heap.size + 1]? = some (.cells c2.toArray 31 (0, 0)) := (hb.block _ (by omega)).trans HG2.out
    replace na : ∀ j, W3.cell? ⟨W.heap.size, j, none⟩ = c1[j]? := fun j => (blk_cell hg1 j).trans (List.getElem?_toArray ..)
    replace nb : ∀ j, W3.cell? ⟨W.heap.size + 1, j, none⟩ = c2[j]? := fun j => (blk_cell hg2 j).trans (List.getElem?_toArray ..)
    replace HG1 := Lib.hid hg1
    replace HG2 := Lib.hid hg2
    replace HbB := Lib.hid (HbB.out.trans (hb.mono (by omega)))
    clear hb hg1 hg2
    go_wp2_with fail
    refine (equalS_calls _ _ f.incl _ (HF1.out.i.keep (by decide) (Keeps.below HbB.out)) (HF2.out.i.keep (by decide) (Keeps.below HbB.out)) HS.out.1.i).mono ?_
    rintro e W4 ⟨rfl, hb⟩
    have hs4 : W.heap.size + 2 ≤ W4.heap.size := by have := hb.size; omega
    have hg1 : W4.heap[W.heap.size]? = some (.cells c1.toArray 31 (0, 0)) := (hb.block _ (by omega)).trans HG1.out
    have hg2 : W4.heap[W.heap.size + 1]? = some (.cells c2.toArray 31 (0, 0)) := (hb.block _ (by omega)).trans HG2.out
    replace na : ∀ j, W4.cell? ⟨W.heap.size, j, none⟩ = c1[j]? := fun j => (blk_cell hg1 j).trans (List.getElem?_toArray ..)
    replace nb : ∀ j, W4.cell? ⟨W.heap.size + 1, j, none⟩ = c2[j]? := fun j => (blk_cell hg2 j).trans (List.getElem?_toArray ..)
    replace HG1 := Lib.hid hg1
    replace HG2 := Lib.hid hg2
    replace HbB := Lib.hid (HbB.out.trans (hb.mono (by omega)))
    clear hb hg1 hg2
    go_wp2_with fail
    refine (equalF_calls HIH.out (by omega) l (by omega) HS.out.2 HZ.out.2 _ _ _ _ _ _ _ (HL1.out.keep (Keeps.below HbB.out)) (HK1.out.keep (by decide) (Keeps.below HbB.out)) (HL2.out.keep (Keeps.below HbB.out)) (HK2.out.keep (by decide) (Keeps.below HbB.out))).mono ?_
    rintro e W5 ⟨rfl, hb⟩
    have HB5 := Lib.hid (HbB.out.trans (hb.mono HbB.out.size))
    clear hb
    go_wp2_with fail
    go_ret
    exact ⟨rfl, HB5.out⟩
end Go.Proofs.YtnbgigdloehbjaaGreatDoor.Ir
namespace Go.Proofs.YtnbgigdloehbjaaGreatDoor.Ir
open Go Go.RowKit Go.Proofs.YtnbgigdloehbjaaGreatDoor.Rg Go.Proofs.YtnbgigdloehbjaaGreatDoor.Ma
set_option maxHeartbeats 8000000
set_option maxRecDepth 100000

theorem same_ne (c1 c2 : List Value) (x y : Int) (h1 : c1[0]? = some (.int .i64 x)) (h2 : c2[0]? = some (.int .i64 y)) (hne : (x == y) = false) (W : World) : Calls Tryz.prog 32 #[.agg c1.toArray, .agg c2.toArray] W (RetB (.bool false) W) := by
  have hb : Below W.heap.size W ((W.alloc (.cells c1.toArray 31)).alloc (.cells c2.toArray 31)) := ((Below.refl _ _).alloc (Nat.le_refl _) _).alloc (by simp) _
  have HB := Lib.hid hb; clear hb
  go_enter Tryz.func32, Tryz.ntmps32
  go_wp2_with fail
  go_ret
  exact ⟨rfl, HB.out⟩
/-- ir.Same: both are made clean, and held against one another. -/
theorem Same_via (n1 n2 : Nd) (x : Bool) (hC1 : ∀ (W : World) (cs : List Value), n1.Held W Any cs → Calls Tryz.prog 33 #[.agg cs.toArray] W (RetT n1 W)) (hC2 : ∀ (W : World) (cs : List Value), n2.Held W Any cs → Calls Tryz.prog 33 #[.agg cs.toArray] W (RetT n2 W))
    (hS : ∀ (W : World) (c1 c2 : List Value), n1.Held W Any c1 → n2.Held W Any c2 → Calls Tryz.prog 32 #[.agg c1.toArray, .agg c2.toArray] W (RetB (.bool x) W))
    (W : World) (c1 c2 : List Value) (hH1 : n1.Held W Any c1) (hH2 : n2.Held W Any c2) : Calls Tryz.prog 14 #[.agg c1.toArray, .agg c2.toArray] W (RetB (.bool x) W) := by
  have hl1 := hH1.length
  have hl2 := hH2.length
  have HH1 := Lib.hid hH1; have HH2 := Lib.hid hH2
  have HC1 := Lib.hid hC1; have HC2 := Lib.hid hC2; have HS := Lib.hid hS
  clear hH1 hH2 hC1 hC2 hS
  obtain ⟨B, hB⟩ : ∃ B, B = (W.alloc (.cells c1.toArray 31)).alloc (.cells c2.toArray 31) := ⟨_, rfl⟩
  have hbB : Below W.heap.size W B := by rw [hB]; exact ((Below.refl _ _).alloc (Nat.le_refl _) _).alloc (by simp) _
  have hsB : B.heap.size = W.heap.size + 2 := by rw [hB]; simp
  have hg1 : B.drew.rangeAt W.heap.size 0 c1 := range_blk (t := 31) (fr := (0, 0)) (by rw [hB]; exact blk_alloc (blk_new W _) _)
  have hg2 : B.drew.rangeAt (W.heap.size + 1) 0 c2 := range_blk (t := 31) (fr := (0, 0)) (by rw [hB]; exact blk_new2 W _ _)
  have HbB := Lib.hid (hbB.drew)
  have hx := hB.symm
  have hdw : B.drew.heap.size = B.heap.size := rfl
  clear hB hbB
  go_enter Tryz.func14, Tryz.ntmps14
  go_wp2_with fail
  clear hx
  refine wp_region_held_drew (S := fun w' => w'.rangeAt W.heap.size 0 c1 ∧ w'.rangeAt (W.heap.size + 1) 0 c2) (by kernel_rfl) ⟨hg1, hg2⟩ (fun hHeld => ?_)
  refine wpAnyH_take (i := 0) (v := .agg c1.toArray) rfl (by kernel_rfl) (by kernel_rfl) (by kernel_rfl) (fun _ _ _ h => h) (yieldsIf_load_mid (by rfl) 31 (.tmp 2) rfl W.heap.size 0 rfl c1 _ (fun w hw => hw.1) Tryz.underlying31 rfl (by rw [sizeNd, hl1])) hHeld ?_
  simp only [Act.put, List.getElem_toArray, List.getElem_cons_zero, List.setIfInBounds_toArray, List.set_cons_zero, List.set_cons_succ]
  refine wpAnyH_take (i := 2) (v := .agg c2.toArray) rfl (by kernel_rfl) (by kernel_rfl) (by kernel_rfl) (fun _ _ _ h => h) (yieldsIf_load_mid (by rfl) 31 (.tmp 3) rfl (W.heap.size + 1) 0 rfl c2 _ (fun w hw => hw.2) Tryz.underlying31 rfl (by rw [sizeNd, hl2])) hHeld ?_
  simp only [Act.put, List.getElem_toArray, List.getElem_cons_zero, List.getElem_cons_succ, List.setIfInBounds_toArray, List.set_cons_zero, List.set_cons_succ]
  refine wpAnyH_ready (rs := [1]) (by kernel_rfl) (by simp) (AllReadyH.cons rfl (fun K hK => ?_) AllReadyH.nil)
  rw [if_pos (by rfl)]
  go_simp
  go_at_call 33
  refine (HC1.out _ _ (Nd.Held.keep (Keeps.below HbB.out) _ HH1.out)).mono ?_
  rintro q w1 ⟨d1, rfl, hD1, hb1⟩
  have HD1 := Lib.hid hD1.any; have HB1 := Lib.hid (HbB.out.trans (hb1.mono HbB.out.size))
  refine hK.out _ _ ⟨range_keep hHeld.1 fun h => hb1.block _ h, range_keep hHeld.2 fun h => hb1.block _ h⟩ (fun hHeld => ?_)
  clear hK K hD1 hb1
  refine wpAnyH_ready (rs := [3]) (by kernel_rfl) (by simp) (AllReadyH.cons rfl (fun K hK => ?_) AllReadyH.nil)
  rw [if_pos (by rfl)]
  go_simp
  go_at_call 33
  refine (HC2.out _ _ (Nd.Held.keep (Keeps.below HB1.out) _ HH2.out)).mono ?_
  rintro q w2 ⟨d2, rfl, hD2, hb2⟩
  have HD2 := Lib.hid hD2.any; have HB2 := Lib.hid (HB1.out.trans (hb2.mono HB1.out.size)); have HD1' := Lib.hid (HD1.out.below hb2)
  refine hK.out _ _ ⟨range_keep hHeld.1 fun h => hb2.block _ h, range_keep hHeld.2 fun h => hb2.block _ h⟩ (fun hHeld => ?_)
  clear hK K hD2 hb2
  refine wpAnyH_ready (rs := [4]) (by kernel_rfl) (by simp) (AllReadyH.cons rfl (fun K hK => ?_) AllReadyH.nil)
  rw [if_pos (by rfl)]
  go_simp
  go_at_call 32
  refine (HS.out _ _ _ HD1'.out HD2.out).mono ?_
  rintro q w3 ⟨rfl, hb3⟩
  have HB3 := Lib.hid (HB2.out.trans (hb3.mono HB2.out.size))
  refine hK.out _ _ ⟨range_keep hHeld.1 fun h => hb3.block _ h, range_keep hHeld.2 fun h => hb3.block _ h⟩ (fun hHeld => ?_)
  clear hK K hb3
  refine wpAnyH_ready (rs := [5]) (by kernel_rfl) (by simp) (AllReadyH.cons rfl (fun K hK => ?_) AllReadyH.nil)
  rw [if_pos (by rfl)]
  go_simp
  refine hK.out _ _ hHeld (fun hHeld => ?_)
  clear hK K
  refine wpAnyH_done (by kernel_rfl) ?_ _
  go_wp2_with fail
  go_ret
  exact ⟨rfl, HB3.out⟩
theorem fW_sml : Sml fW := ⟨by decide, by simp [fW, m1]; decide, by decide, by simp [fW], by decide, by simp [fW], by decide, by simp [fW], by decide, by decide⟩
theorem fA_sml : Sml fA := ⟨by decide, by simp [fA], by decide, by simp [fA], by decide, by simp [fA], by decide, by simp [fA], by decide, by decide⟩
theorem wNd_sm : wNd.Sm := ⟨fW_sml, trivial⟩
theorem nNd_sm : nNd.Sm := ⟨fA_sml, trivial, wNd_sm⟩
theorem wNd_zr : wNd.Zr := ⟨rfl, trivial⟩
theorem nNd_zr : nNd.Zr := ⟨rfl, trivial, wNd_zr⟩
theorem Same_nn (W : World) (c1 c2 : List Value) (h1 : nNd.Held W Any c1) (h2 : nNd.Held W Any c2) : Calls Tryz.prog 14 #[.agg c1.toArray, .agg c2.toArray] W (RetB (.bool true) W) :=
  Same_via nNd nNd true (fun W cs h => clean_n cs W h) (fun W cs h => clean_n cs W h) (fun W c1 c2 h1 h2 => same_calls 10 (by decide) nNd (by decide) nNd_sm nNd_zr W c1 c2 h1 h2) W c1 c2 h1 h2
theorem Same_nw (W : World) (c1 c2 : List Value) (h1 : nNd.Held W Any c1) (h2 : wNd.Held W Any c2) : Calls Tryz.prog 14 #[.agg c1.toArray, .agg c2.toArray] W (RetB (.bool false) W) :=
  Same_via nNd wNd false (fun W cs h => clean_n cs W h) (fun W cs h => clean_w cs W h) (fun W c1 c2 h1 h2 => by
    obtain ⟨_, _, _, _, _, _, _, e1, _⟩ := h1.open
    obtain ⟨_, _, _, _, _, _, _, e2, _⟩ := h2.open
    exact same_ne c1 c2 8 4 (by rw [e1]; rfl) (by rw [e2]; rfl) rfl W) W c1 c2 h1 h2
end Go.Proofs.YtnbgigdloehbjaaGreatDoor.Ir
