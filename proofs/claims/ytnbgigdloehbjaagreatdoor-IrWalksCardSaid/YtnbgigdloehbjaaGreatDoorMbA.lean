/-
  Names of labels: what package labels and the document say of a text.
  Names of labels: the walks of both Names.
  Texts in quotes: rows of bytes of one's own; plain facts.
  Texts in quotes: the walk of package labels' Quote.
  Texts in quotes: the walk of the document's Quote.
-/
import Derived.Test.YtnbgigdloehbjaaGreatDoorBaA
namespace Go.Proofs.YtnbgigdloehbjaaGreatDoor.Ma
open Go Go.RowKit Go.Proofs.YtnbgigdloehbjaaGreatDoor.Rg

def letterB (c : Nat) : Bool := decide (65 ≤ c ∧ c ≤ 90) || decide (97 ≤ c ∧ c ≤ 122) || decide (c = 95)
def digitB (c : Nat) : Bool := decide (48 ≤ c ∧ c ≤ 57)
def wordB (c : Nat) : Bool := letterB c || digitB c
def plainB (c : Nat) : Bool := decide (32 ≤ c ∧ c < 127)
/-- Is a text a label's name? -/
def nameB (s : ByteArray) : Bool := decide (0 < s.size ∧ s.size ≤ 64) && letterB (byteAt s 0) && (s.data.toList.all fun c => wordB c.toNat)

theorem letter_iff (c : Nat) : letterB c = true ↔ (65 ≤ c ∧ c ≤ 90) ∨ (97 ≤ c ∧ c ≤ 122) ∨ c = 95 := by simp [letterB, or_assoc]
theorem letter_no (c : Nat) : letterB c = false ↔ ¬ ((65 ≤ c ∧ c ≤ 90) ∨ (97 ≤ c ∧ c ≤ 122) ∨ c = 95) := by rw [← letter_iff, Bool.not_eq_true]
theorem digit_iff (c : Nat) : digitB c = true ↔ 48 ≤ c ∧ c ≤ 57 := by simp [digitB]
theorem plain_iff (c : Nat) : plainB c = true ↔ 32 ≤ c ∧ c < 127 := by simp [plainB]
theorem ret_bool {a b : Bool} (h : a = true ↔ b = true) : Ending.returned (.bool a) = .returned (.bool b) := by rw [Bool.eq_iff_iff.2 h]
set_option maxRecDepth 100000 in
theorem letter_calls (c : Nat) (hc : c < 256) (W : World) : Calls Tryz.prog 86 #[.int .u8 (c : Int)] W fun e W' => e = .returned (.bool (letterB c)) ∧ W = W' := by
  have h255 : (c : Int) < 256 := by omega
  go_enter Tryz.func86, Tryz.ntmps86
  go_wp2
  all_goals
    go_ret
    exact ⟨ret_bool (by rw [letter_iff]; simp <;> omega), rfl⟩
set_option maxRecDepth 100000 in
theorem digit_calls (c : Nat) (hc : c < 256) (W : World) : Calls Tryz.prog 87 #[.int .u8 (c : Int)] W fun e W' => e = .returned (.bool (digitB c)) ∧ W = W' := by
  have h255 : (c : Int) < 256 := by omega
  go_enter Tryz.func87, Tryz.ntmps87
  go_wp2
  all_goals
    go_ret
    exact ⟨ret_bool (by rw [digit_iff]; simp <;> omega), rfl⟩
set_option maxRecDepth 100000 in
theorem plain_calls (c : Nat) (hc : c < 256) (W : World) : Calls Tryz.prog 51 #[.int .u8 (c : Int)] W fun e W' => e = .returned (.bool (plainB c)) ∧ W = W' := by
  have h255 : (c : Int) < 256 := by omega
  go_enter Tryz.func51, Tryz.ntmps51
  go_wp2
  all_goals
    go_ret
    exact ⟨ret_bool (by rw [plain_iff]; simp <;> omega), rfl⟩
end Go.Proofs.YtnbgigdloehbjaaGreatDoor.Ma
namespace Go.Proofs.YtnbgigdloehbjaaGreatDoor.Ma
open Go Go.RowKit Go.Proofs.YtnbgigdloehbjaaGreatDoor.Rg

theorem take_byte (s : ByteArray) (k : Nat) (h : k < s.size) : s.data.toList.take (k + 1) = s.data.toList.take k ++ [s[k]'h] := by
  rw [List.take_add_one, List.getElem?_eq_getElem (by rw [Array.length_toList]; exact h)]; rfl
theorem all_take (s : ByteArray) (k : Nat) (h : k < s.size) (p : UInt8 → Bool) : (s.data.toList.take (k + 1)).all p = ((s.data.toList.take k).all p && p (s[k]'h)) := by
  rw [take_byte s k h]; simp
theorem all_false (s : ByteArray) (k : Nat) (h : k < s.size) (p : UInt8 → Bool) (hp : p (s[k]'h) = false) : s.data.toList.all p = false := by
  rw [List.all_eq_false]
  exact ⟨s[k]'h, by
    have : s[k]'h ∈ s.data.toList := by
      rw [List.mem_iff_getElem]
      exact ⟨k, by rw [Array.length_toList]; exact h, rfl⟩
    exact this, by rw [hp]; simp⟩
theorem nameB_of {s : ByteArray} (h0 : 0 < s.size) (h64 : s.size ≤ 64) (hl : letterB (s[0]'h0).toNat = true) : nameB s = s.data.toList.all fun c => wordB c.toNat := by
  rw [nameB, byteAt, dif_pos h0, hl]; simp [h0, h64]
set_option maxRecDepth 100000 in
set_option maxHeartbeats 4000000 in
theorem name_calls (s : ByteArray) (hs : s.size ≤ maxLen) (x : Bool) (hx : nameB s = x) (W : World) : Calls Tryz.prog 69 #[.string s] W fun e W' => e = .returned (.bool x) ∧ W = W' := by
  unfold maxLen at hs
  have HX := Lib.hid hx; clear hx
  by_cases h0 : s.size = 0
  · obtain rfl : s = ⟨#[]⟩ := by
      obtain ⟨⟨l⟩⟩ := s
      have : l = [] := List.eq_nil_of_length_eq_zero h0
      rw [this]
    clear h0
    go_enter Tryz.func69, Tryz.ntmps69
    go_wp2
    go_ret
    exact ⟨by rw [← HX.out]; rfl, rfl⟩
  have h0' : 0 < s.size := by omega
  have he : s.toList.isEmpty = false := by
    rw [ByteArray.toList_eq]
    cases hq : s.data.toList with
    | nil => exact absurd (by have := congrArg List.length hq; rw [Array.length_toList] at this; exact this) h0
    | cons a l => rfl
  have he2 : (s.toList == []) = false := by
    cases hq : s.toList with
    | nil => rw [hq] at he; cases he
    | cons a l => rfl
  have he3 : ¬ s.toList = [] := by intro h; rw [h] at he; cases he
  by_cases h64 : 64 < s.size
  · go_enter Tryz.func69, Tryz.ntmps69
    go_wp2
    go_ret
    exact ⟨by rw [← HX.out, nameB]; simp <;> omega, rfl⟩
  by_cases hl : letterB (s[0]'h0').toNat = true
  · have hN := nameB_of h0' (by omega) hl
    rw [HX.out] at hN
    have HN := Lib.hid hN; clear hN
    have HL := Lib.hid hl; clear hl
    go_enter Tryz.func69, Tryz.ntmps69
    go_wp2_with fail
    (with_reducible refine (letter_calls _ (UInt8.toNat_lt _) _).mono ?_)
    rintro e W1 ⟨rfl, rfl⟩
    rw [HL.out]
    go_wp2_with fail
    go_loopw [19] (fun i wr => ∃ k : Nat, k ≤ s.size ∧ i = .int .i64 (k : Int) ∧ (s.data.toList.take k).all (fun c => wordB c.toNat) = true ∧ wr = W) (fun i _ => s.size - (intOf i).toNat)
    case atStart => exact ⟨0, by omega, rfl, rfl, rfl⟩
    case round =>
      obtain ⟨k, hk, rfl, hall, rfl⟩ := hrel
      have HAll := Lib.hid hall; clear hall
      by_cases hkb : k < s.size
      · have ha := all_take s k hkb (fun c => wordB c.toNat)
        by_cases hlk : letterB (s[k]'hkb).toNat = true
        · have hall' : (s.data.toList.take (k + 1)).all (fun c => wordB c.toNat) = true := by rw [ha, HAll.out, wordB, hlk]; rfl
          have HAll' := Lib.hid hall'; clear hall' ha
          have HLk := Lib.hid hlk; clear hlk
          go_wp2_with fail
          (with_reducible refine (letter_calls _ (UInt8.toNat_lt _) _).mono ?_)
          rintro e W1 ⟨rfl, rfl⟩
          rw [HLk.out]
          go_wp2_with fail
          go_roundw
          case rel => exact ⟨k + 1, by omega, by go_num, HAll'.out, trivial⟩
          case measure => (simp [intOf] <;> omega)
        · have hlk' : letterB (s[k]'hkb).toNat = false := by simpa using hlk
          clear hlk
          by_cases hdk : digitB (s[k]'hkb).toNat = true
          · have hall' : (s.data.toList.take (k + 1)).all (fun c => wordB c.toNat) = true := by rw [ha, HAll.out, wordB, hdk]; simp
            have HAll' := Lib.hid hall'; clear hall' ha
            have HLk := Lib.hid hlk'; clear hlk'
            have HDk := Lib.hid hdk; clear hdk
            go_wp2_with fail
            (with_reducible refine (letter_calls _ (UInt8.toNat_lt _) _).mono ?_)
            rintro e W1 ⟨rfl, rfl⟩
            rw [HLk.out]
            go_wp2_with fail
            (with_reducible refine (digit_calls _ (UInt8.toNat_lt _) _).mono ?_)
            rintro e W1 ⟨rfl, rfl⟩
            rw [HDk.out]
            go_wp2_with fail
            go_roundw
            case rel => exact ⟨k + 1, by omega, by go_num, HAll'.out, trivial⟩
            case measure => (simp [intOf] <;> omega)
          · have hdk' : digitB (s[k]'hkb).toNat = false := by simpa using hdk
            have hfin : x = false := by rw [HN.out]; exact all_false s k hkb _ (by rw [wordB, hlk', hdk']; rfl)
            have HF := Lib.hid hfin; clear hfin hdk ha
            have HLk := Lib.hid hlk'; clear hlk'
            have HDk := Lib.hid hdk'; clear hdk'
            go_wp2_with fail
            (with_reducible refine (letter_calls _ (UInt8.toNat_lt _) _).mono ?_)
            rintro e W1 ⟨rfl, rfl⟩
            rw [HLk.out]
            go_wp2_with fail
            (with_reducible refine (digit_calls _ (UInt8.toNat_lt _) _).mono ?_)
            rintro e W1 ⟨rfl, rfl⟩
            rw [HDk.out]
            go_wp2_with fail
            go_ret
            exact ⟨by rw [HF.out]; rfl, rfl⟩
      · have hfin : x = true := by
          rw [HN.out, ← HAll.out, List.take_of_length_le (by rw [Array.length_toList]; exact Nat.le_of_not_lt hkb)]
        have HF := Lib.hid hfin; clear hfin
        go_wp2_with fail
        go_ret
        exact ⟨by rw [HF.out]; rfl, rfl⟩
  · have hl' : letterB (s[0]'h0').toNat = false := by simpa using hl
    have hfin : x = false := by rw [← HX.out, nameB, byteAt, dif_pos h0', hl']; simp
    have HF := Lib.hid hfin; clear hfin hl
    have HL := Lib.hid hl'; clear hl'
    go_enter Tryz.func69, Tryz.ntmps69
    go_wp2_with fail
    (with_reducible refine (letter_calls _ (UInt8.toNat_lt _) _).mono ?_)
    rintro e W1 ⟨rfl, rfl⟩
    rw [HL.out]
    go_wp2_with fail
    go_ret
    exact ⟨by rw [HF.out]; rfl, rfl⟩
end Go.Proofs.YtnbgigdloehbjaaGreatDoor.Ma
namespace Go.Proofs.YtnbgigdloehbjaaGreatDoor.Ma
open Go Go.RowKit Go.Proofs.YtnbgigdloehbjaaGreatDoor.Rg

/-- A row of bytes of one's own. -/
structure Bts (W wr : World) (v : Value) (N : Nat) (l : List UInt8) : Prop where
  own : wr.ownsRow W.heap.size 5 1 v N (u8s l)
  len : l.length = N
  bel : Below W.heap.size W wr
section
variable {W wr w1 : World} {v : Value} {N : Nat} {l : List UInt8}
theorem Bts.drew (h : Bts W wr v N l) : Bts W wr.drew v N l := ⟨h.own, h.len, h.bel.drew⟩
theorem Bts.form (h : Bts W wr v N l) : ∃ ao cap, v = .slice ao N cap := own_any h.own
theorem Bts.lit (W : World) (new : List UInt8) (h0 : 0 < new.length) (hl : new.length ≤ 1000) (cs : List Value) (hcs : cs = u8s new) : Bts W (W.alloc (.cells cs.toArray 5)) (.slice (some ⟨W.heap.size, 0, none⟩) new.length new.length) new.length new := by
  subst hcs
  refine ⟨?_, rfl, (Below.refl _ _).alloc (Nat.le_refl _) _⟩
  have := World.ownsRow_lit (e := 5) (size := 1) W (u8s new).toArray new.length (Nat.le_refl _) (by unfold maxLen; omega) (by simp [u8s_length])
  simpa using this
theorem u8s_one (l : List UInt8) : ∀ u ∈ u8s l, u.oneCell' = true := by
  intro u hu
  simp only [u8s, List.mem_map] at hu
  obtain ⟨b, _, rfl⟩ := hu
  rfl
end
/-- Some bytes more. -/
theorem wp_bytes {o : Oper} {a : Act} {K : Act → World → Prop} {Q : Exit → Act → World → Prop} (s xo : Operand)
    (ho : o.op = .call { callee := .builtin .append, args := #[s, xo], argTypes := #[87, 87] })
    {W wr : World} {v : Value} {N : Nat} {l : List UInt8} (h : Bts W wr v N l) (new : List UInt8) (h0 : 0 < new.length) (hN : N + new.length ≤ 100000) (cs : List Value) (hcs : cs = u8s new)
    (hs : a.eval s = v) (hx : a.eval xo = .slice (some ⟨wr.heap.size, 0, none⟩) new.length new.length)
    (hk : ∀ g cap w', Bts W w' (.slice (some ⟨g, 0, none⟩) (N + new.length) cap) (N + new.length) (l ++ new) → K (a.put o.dst (.slice (some ⟨g, 0, none⟩) (N + new.length) cap)) w') :
    o.wp Tryz.prog a (wr.alloc (.cells cs.toArray 5)) K Q := by
  obtain ⟨i0, hi0, hz0, hz1, hz2⟩ := info_parts infoU8
  subst hcs
  have hsz := h.bel.size
  refine wp_append_lies _ s xo 87 ho W.heap.size 5 i0 (.int .u8 0) 1 1 Tryz.underlying87 hi0 hz0 hz1 hz2 rfl (by decide) v N (u8s l) hs (h.own.alloc _) ⟨wr.heap.size, 0, none⟩ new.length new.length (u8s new) hx (by rw [u8s_length]; omega) (World.news_of_block (cs := (u8s new).toArray) (t := 5) (fr := (0, 0)) (blk_new _ _)) (u8s_one new) h0 (by unfold maxLen; omega) (by omega) (by simp; omega) (wr.heap.size + 1) (by simp) ?_
  intro g cap w' hown hgrow hat hlt
  refine hk g cap w' ⟨?_, by rw [List.length_append, h.len], (h.bel.alloc hsz _).grown hgrow (by simp; omega) (fun k hk => (h.own.lt k hk).1)⟩
  rw [u8s_app]
  exact hown
theorem wpList_bytes {ops : Array Oper} {rest : List Oper} {o : Oper} {a : Act} {Q : Exit → Act → World → Prop} (hgd : o.guard = none) (s xo : Operand)
    (ho : o.op = .call { callee := .builtin .append, args := #[s, xo], argTypes := #[87, 87] })
    {W wr : World} {v : Value} {N : Nat} {l : List UInt8} (h : Bts W wr v N l) (new : List UInt8) (h0 : 0 < new.length) (hN : N + new.length ≤ 100000) (cs : List Value) (hcs : cs = u8s new)
    (hs : a.eval s = v) (hx : a.eval xo = .slice (some ⟨wr.heap.size, 0, none⟩) new.length new.length)
    (hk : ∀ g cap w', Bts W w' (.slice (some ⟨g, 0, none⟩) (N + new.length) cap) (N + new.length) (l ++ new) → wpList Tryz.prog ops Q rest (a.put o.dst (.slice (some ⟨g, 0, none⟩) (N + new.length) cap)) w') :
    wpList Tryz.prog ops Q (o :: rest) a (wr.alloc (.cells cs.toArray 5)) :=
  wpList_plain hgd fun _ hK => wp_bytes s xo ho h new h0 hN cs hcs hs hx fun g cap w' h2 => hK _ _ (hk g cap w' h2)
theorem step_bytes {ops : Array Oper} {o : Oper} {a : Act} {K : Act → World → Prop} {Q : Exit → Act → World → Prop} {E : Prop} (hgd : o.guard = none) (s xo : Operand)
    (ho : o.op = .call { callee := .builtin .append, args := #[s, xo], argTypes := #[87, 87] })
    {W wr : World} {v : Value} {N : Nat} {l : List UInt8} (h : Bts W wr v N l) (new : List UInt8) (h0 : 0 < new.length) (hN : N + new.length ≤ 100000) (cs : List Value) (hcs : cs = u8s new)
    (hs : a.eval s = v) (hx : a.eval xo = .slice (some ⟨wr.heap.size, 0, none⟩) new.length new.length)
    (hk : ∀ g cap w', Bts W w' (.slice (some ⟨g, 0, none⟩) (N + new.length) cap) (N + new.length) (l ++ new) → K (a.put o.dst (.slice (some ⟨g, 0, none⟩) (N + new.length) cap)) w') :
    if Region.wanted o (yielded ops a.tmps) = true then Oper.wp Tryz.prog o a (wr.alloc (.cells cs.toArray 5)) K Q else E := by
  have hw : Region.wanted o (yielded ops a.tmps) = true := by simp [Region.wanted, hgd]
  rw [if_pos hw]
  exact wp_bytes s xo ho h new h0 hN cs hcs hs hx hk

/-! A text in quotes -/
def hexL : List UInt8 := [48, 49, 50, 51, 52, 53, 54, 55, 56, 57, 97, 98, 99, 100, 101, 102]
def hexU (n : Nat) : UInt8 := hexL.getD n 0
def escQ (c : UInt8) : List UInt8 := if c.toNat = 34 ∨ c.toNat = 92 then [92, c] else if plainB c.toNat then [c] else [92, 120, hexU (c.toNat / 16), hexU (c.toNat % 16)]
def quoteL (l : List UInt8) : List UInt8 := l.flatMap escQ
def quoteS (s : ByteArray) : ByteArray := ⟨(34 :: quoteL s.data.toList ++ [34]).toArray⟩
theorem quoteL_snoc (l : List UInt8) (c : UInt8) : quoteL (l ++ [c]) = quoteL l ++ escQ c := by simp [quoteL]
theorem escQ_length (c : UInt8) : (escQ c).length ≤ 4 := by
  unfold escQ
  split
  · simp
  · split <;> simp
theorem quoteL_length : ∀ l : List UInt8, (quoteL l).length ≤ 4 * l.length
  | [] => Nat.le_refl _
  | c :: l => by
    have := quoteL_length l
    have := escQ_length c
    simp only [quoteL, List.flatMap_cons, List.length_append, List.length_cons] at *
    omega
theorem hex_at (n : Nat) (h : n < 16) : (({ data := #[48, 49, 50, 51, 52, 53, 54, 55, 56, 57, 97, 98, 99, 100, 101, 102] } : ByteArray)[n]'h) = hexU n := by
  have : ∀ n : Fin 16, (({ data := #[48, 49, 50, 51, 52, 53, 54, 55, 56, 57, 97, 98, 99, 100, 101, 102] } : ByteArray)[n.val]'n.isLt) = hexU n.val := by decide +kernel
  exact this ⟨n, h⟩
theorem hex_run (n : Nat) (h : n < 16) (x : Int) (hx : x = n) (w : World) : (Instr.index 9 (.string { data := #[48, 49, 50, 51, 52, 53, 54, 55, 56, 57, 97, 98, 99, 100, 101, 102] }) (.int .u8 x)).run Tryz.prog w = .ok (.int .u8 ((hexU n).toNat : Int)) w := by
  subst hx
  have h1 : (n : Int) < 16 := by omega
  have h2 := hex_at n h
  have hu := Tryz.underlying9
  go_simp
theorem and15 (c : Nat) (h : c < 256) : bits BinOp.and IntKind.u8 (c : Int) 15 = ((c % 16 : Nat) : Int) := by
  have : ∀ c : Fin 256, bits BinOp.and IntKind.u8 (c.val : Int) 15 = ((c.val % 16 : Nat) : Int) := by decide +kernel
  exact this ⟨c, h⟩
end Go.Proofs.YtnbgigdloehbjaaGreatDoor.Ma
namespace Go.Proofs.YtnbgigdloehbjaaGreatDoor.Ma
open Go Go.RowKit Go.Proofs.YtnbgigdloehbjaaGreatDoor.Rg

def QuotePost (W : World) (s : ByteArray) (e : Ending) (W' : World) : Prop := e = .returned (.string (quoteS s)) ∧ Below W.heap.size W W'
set_option maxRecDepth 100000 in
set_option maxHeartbeats 4000000 in
theorem quote_calls (s : ByteArray) (hs : s.size ≤ 20000) (W : World) : Calls Tryz.prog 30 #[.string s] W (QuotePost W s) := by
  have hst : Bts W (W.alloc (.cells #[.int .u8 34] 5)) (.slice (some ⟨W.heap.size, 0, none⟩) 1 1) 1 [34] := Bts.lit W [34] (by decide) (by decide) [.int .u8 34] (by simp [u8s])
  have HSt := Lib.hid hst; clear hst
  go_enter Tryz.func30, Tryz.ntmps30
  go_wp2_with fail
  go_loopw [9, 3] (fun i vq wr => ∃ (v : Value) (k N : Nat), v = vq ∧ k ≤ s.size ∧ i = .int .i64 (k : Int) ∧ Bts W wr v N (34 :: quoteL (s.data.toList.take k))) (fun i _ _ => s.size - (intOf i).toNat)
  case atStart => exact ⟨_, 0, 1, rfl, Nat.zero_le _, rfl, HSt.out⟩
  case round =>
    obtain ⟨v, k, N, rfl, hk, rfl, hB⟩ := hrel
    have hN : N ≤ 4 * k + 1 := by
      have h1 := hB.len
      have h2 := quoteL_length (s.data.toList.take k)
      rw [List.length_cons] at h1
      rw [List.length_take] at h2
      omega
    have hwsz := hB.bel.size
    have HB := Lib.hid hB; clear hB
    by_cases hkb : k < s.size
    · have htk : quoteL (s.data.toList.take (k + 1)) = quoteL (s.data.toList.take k) ++ escQ (s[k]'hkb) := by rw [take_byte s k hkb, quoteL_snoc]
      have h256 := UInt8.toNat_lt (s[k]'hkb)
      by_cases h1 : (s[k]'hkb).toNat = 34 ∨ (s[k]'hkb).toNat = 92
      · have htk' : 34 :: quoteL (s.data.toList.take (k + 1)) = (34 :: quoteL (s.data.toList.take k)) ++ [92, s[k]'hkb] := by rw [htk, escQ, if_pos h1]; rfl
        have HTk := Lib.hid htk'; clear htk htk'
        have h1' : (((s[k]'hkb).toNat : Int) == 34) = true ∨ ((((s[k]'hkb).toNat : Int) == 34) = false ∧ (((s[k]'hkb).toNat : Int) == 92) = true) := by
          by_cases h : (s[k]'hkb).toNat = 34
          · left; rw [h]; rfl
          · right; exact ⟨by rw [beq_eq_false_iff_ne]; omega, by rw [beq_iff_eq]; omega⟩
        clear h1
        rcases h1' with t1 | ⟨t1, t2⟩
        all_goals
          go_wp2_with (at_builtin; refine wpList_bytes rfl (.tmp 26) (.tmp 28) rfl HB.out [92, s[k]'hkb] (by simp) (by simp; omega) [.int .u8 92, .int .u8 ((s[k]'hkb).toNat : Int)] (by simp [u8s]) rfl rfl ?_; intro g2 cap2 w2 hB2; have HB2 := Lib.hid hB2; clear hB2)
          go_roundw
          case rel => exact ⟨_, k + 1, _, rfl, by omega, by go_num, by rw [HTk.out]; exact HB2.out⟩
          case measure => (simp [intOf] <;> omega)
      · have t1 : (((s[k]'hkb).toNat : Int) == 34) = false := by rw [beq_eq_false_iff_ne]; omega
        have t2 : (((s[k]'hkb).toNat : Int) == 92) = false := by rw [beq_eq_false_iff_ne]; omega
        by_cases hp : plainB (s[k]'hkb).toNat = true
        · have htk' : 34 :: quoteL (s.data.toList.take (k + 1)) = (34 :: quoteL (s.data.toList.take k)) ++ [s[k]'hkb] := by rw [htk, escQ, if_neg h1, if_pos hp]; rfl
          have HTk := Lib.hid htk'; clear htk htk' h1
          have HP := Lib.hid hp; clear hp
          go_wp2_with fail
          (with_reducible refine (plain_calls _ (UInt8.toNat_lt _) _).mono ?_)
          rintro e W1 ⟨rfl, rfl⟩
          rw [HP.out]
          go_wp2_with (at_builtin; refine wpList_bytes rfl (.tmp 15) (.tmp 17) rfl HB.out [s[k]'hkb] (by simp) (by simp; omega) [.int .u8 ((s[k]'hkb).toNat : Int)] (by simp [u8s]) rfl rfl ?_; intro g2 cap2 w2 hB2; have HB2 := Lib.hid hB2; clear hB2)
          go_roundw
          case rel => exact ⟨_, k + 1, _, rfl, by omega, by go_num, by rw [HTk.out]; exact HB2.out⟩
          case measure => (simp [intOf] <;> omega)
        · have hp' : plainB (s[k]'hkb).toNat = false := by simpa using hp
          have htk' : 34 :: quoteL (s.data.toList.take (k + 1)) = (34 :: quoteL (s.data.toList.take k)) ++ [92, 120, hexU ((s[k]'hkb).toNat / 16), hexU ((s[k]'hkb).toNat % 16)] := by rw [htk, escQ, if_neg h1, if_neg hp]; rfl
          have HTk := Lib.hid htk'; clear htk htk' h1 hp
          have HP := Lib.hid hp'; clear hp'
          have hx1 := hex_run ((s[k]'hkb).toNat / 16) (by omega) (((s[k]'hkb).toNat : Int) / 16) (by omega)
          have hx2 := hex_run ((s[k]'hkb).toNat % 16) (by omega) (bits BinOp.and IntKind.u8 ((s[k]'hkb).toNat : Int) 15) (and15 _ h256)
          go_wp2_with fail
          (with_reducible refine (plain_calls _ (UInt8.toNat_lt _) _).mono ?_)
          rintro e W1 ⟨rfl, rfl⟩
          rw [HP.out]
          go_wp2_with fail
          go_region_law (refine step_bytes rfl (.tmp 34) (.tmp 41) rfl HB.out.drew [92, 120, hexU ((s[k]'hkb).toNat / 16), hexU ((s[k]'hkb).toNat % 16)] (by simp) (by simp; omega) [.int .u8 92, .int .u8 120, .int .u8 ((hexU ((s[k]'hkb).toNat / 16)).toNat : Int), .int .u8 ((hexU ((s[k]'hkb).toNat % 16)).toNat : Int)] (by simp [u8s]) rfl rfl ?_; intro g2 cap2 w2 hB2)
          all_goals
            have HB2 := Lib.hid hB2; clear hB2
            go_wp2_with fail
            go_roundw
            case rel => exact ⟨_, k + 1, _, rfl, by omega, by go_num, by rw [HTk.out]; exact HB2.out⟩
            case measure => (simp [intOf] <;> omega)
    · have hks : k = s.size := by omega
      have hl : s.data.toList.take k = s.data.toList := List.take_of_length_le (by rw [hks, Array.length_toList]; exact Nat.le_refl _)
      have hfin : (⟨(34 :: quoteL (s.data.toList.take k) ++ [34]).toArray⟩ : ByteArray) = quoteS s := by rw [hl]; rfl
      have HF := Lib.hid hfin; clear hfin hl
      go_wp2_with (at_builtin; refine wpList_bytes rfl (.tmp 44) (.tmp 45) rfl HB.out [34] (by simp) (by simp; omega) [.int .u8 34] (by simp [u8s]) rfl rfl ?_; intro g2 cap2 w2 hB2; have hcv := own_string hB2.own hB2.len.symm; rw [HF.out] at hcv; simp only [List.length_cons, List.length_nil, Nat.zero_add] at hcv; have HB2 := Lib.hid hB2; clear hB2)
      go_ret
      exact ⟨rfl, HB2.out.bel⟩
end Go.Proofs.YtnbgigdloehbjaaGreatDoor.Ma
