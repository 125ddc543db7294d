/-
  What the Go package regex computes, as plain Lean functions over a record (the reader's state) and lists of instructions: no memory, no program.
-/
import Derived.Test.YtnbgigdloehbjaaGreatDoorBaA
namespace Go.Proofs.YtnbgigdloehbjaaGreatDoor.Rg
open Go

/-- Bytes, as four words. -/
structure Bs where
  w0 : Nat
  w1 : Nat
  w2 : Nat
  w3 : Nat
  deriving DecidableEq

def Bs.word (S : Bs) (i : Nat) : Nat := match i with | 0 => S.w0 | 1 => S.w1 | 2 => S.w2 | _ => S.w3
def Bs.setWord (S : Bs) (i v : Nat) : Bs := match i with | 0 => { S with w0 := v } | 1 => { S with w1 := v } | 2 => { S with w2 := v } | _ => { S with w3 := v }
def Bs.put (S : Bs) (c : Nat) : Bs := S.setWord (c / 64) (S.word (c / 64) ||| 2 ^ (c % 64))
def Bs.has (S : Bs) (c : Nat) : Bool := (S.word (c / 64)).testBit (c % 64)
def Bs.zero : Bs := ⟨0, 0, 0, 0⟩
def Bs.all : Bs := ⟨18446744073709551615, 18446744073709551615, 18446744073709551615, 18446744073709551615⟩
def Bs.neg (S : Bs) : Bs := ⟨18446744073709551615 - S.w0, 18446744073709551615 - S.w1, 18446744073709551615 - S.w2, 18446744073709551615 - S.w3⟩
/-- n bytes from lo on. -/
def Bs.putN (S : Bs) (lo : Nat) : Nat → Bs
  | 0 => S
  | n + 1 => (S.putN lo n).put (lo + n)
def Bs.putRange (S : Bs) (lo hi : Nat) : Bs := S.putN lo (hi + 1 - lo)
def Bs.ok (S : Bs) : Prop := S.w0 < 18446744073709551616 ∧ S.w1 < 18446744073709551616 ∧ S.w2 < 18446744073709551616 ∧ S.w3 < 18446744073709551616
def Bs.cells (S : Bs) : Array Value := #[.int .u64 S.w0, .int .u64 S.w1, .int .u64 S.w2, .int .u64 S.w3]

structure Inst where
  kind : Nat
  set : Bs
  a : Nat
  b : Nat
  deriving DecidableEq

def Inst.cells (x : Inst) : List Value := [.int .i64 x.kind, .int .u64 x.set.w0, .int .u64 x.set.w1, .int .u64 x.set.w2, .int .u64 x.set.w3, .int .i64 x.a, .int .i64 x.b]
def flat (l : List Inst) : List Value := l.flatMap Inst.cells

/-- The reader. -/
structure Rd where
  s : ByteArray
  at_ : Nat
  deep : Nat
  l : List Inst
  err : Nat
  bad : Nat


namespace Rd
def fail (r : Rd) (e p : Nat) : Rd := if r.err = 0 then { r with err := e, bad := p } else r
def has (r : Rd) : Bool := r.err == 0 && decide (r.at_ < r.s.size)
def cur (r : Rd) : Nat := byteAt r.s r.at_
def nextV (r : Rd) : Nat := if r.has then r.cur else 0
def adv (r : Rd) : Rd := { r with at_ := r.at_ + 1 }
def put (r : Rd) (x : Inst) : Rd := { r with l := r.l ++ [x] }
def isB (r : Rd) (c : Nat) : Bool := r.has && r.cur == c
def isR (r : Rd) (c : Nat) : Rd := if r.isB c then r.adv else r
/-- the byte behind a stroke -/
def escB (r : Rd) (which : List Nat) : Bool := r.adv.has && which.contains r.adv.cur
def escV (r : Rd) (which : List Nat) : Nat := if r.escB which then r.adv.cur else 0
def escR (r : Rd) (which : List Nat) : Rd := if r.escB which then r.adv.adv else r.adv.fail 2 r.adv.at_
def behind : List Nat := [92, 46, 91, 93, 40, 41, 124, 42, 43, 63, 94, 36, 123, 125, 47, 45]
def inside : List Nat := [93, 91, 92, 45, 94, 46, 40, 41, 124, 42, 43, 63]
/-- a byte in brackets -/
def itemV (r : Rd) : Nat := if r.has then (if r.cur = 92 then r.escV inside else if r.cur = 93 ∨ r.cur = 45 ∨ r.cur = 94 then 0 else r.cur) else 0
def itemR (r : Rd) : Rd := if r.has then (if r.cur = 92 then r.escR inside else if r.cur = 93 ∨ r.cur = 45 ∨ r.cur = 94 then r.fail 2 r.at_ else r.adv) else r.fail 2 r.at_
/-- one item of brackets: its ends, and what is left -/
def rangeLo (r : Rd) : Nat := r.itemV
def rangeHi (r : Rd) : Nat := if r.itemR.isB 45 then (r.itemR.isR 45).itemV else r.itemV
def rangeR (r : Rd) : Rd :=
  if r.itemR.isB 45 then
    (if (r.itemR.isR 45).itemV < r.itemV then (r.itemR.isR 45).itemR.fail 2 (r.itemR.isR 45).at_ else (r.itemR.isR 45).itemR)
  else r.itemR.isR 45
/-- the items: n is fuel -/
def itemsR : Nat → Rd → Rd
  | 0, r => r
  | n + 1, r => if r.rangeR.err = 0 ∧ r.rangeR.isB 93 = false then itemsR n r.rangeR else r.rangeR.isR 93
def itemsS : Nat → Rd → Bs → Bs
  | 0, _, S => S
  | n + 1, r, S => if r.rangeR.err = 0 ∧ r.rangeR.isB 93 = false then itemsS n r.rangeR (S.putRange r.rangeLo r.rangeHi) else S.putRange r.rangeLo r.rangeHi
def classN (r : Rd) : Bool := r.adv.isB 94
def classI (r : Rd) : Rd := r.adv.isR 94
def fuel (r : Rd) : Nat := r.s.size + 1 - r.at_
def classS (r : Rd) : Bs := if r.classN then (itemsS r.classI.fuel r.classI .zero).neg else itemsS r.classI.fuel r.classI .zero
def class_ (r : Rd) : Rd := (itemsR r.classI.fuel r.classI).put ⟨0, r.classS, 0, 0⟩
/-- an atom; grp: what reads a pattern in brackets -/
def atom (grp : Rd → Rd) (r : Rd) : Rd :=
  if r.cur = 91 then r.class_
  else if r.cur = 40 then grp r
  else if r.cur = 46 then r.adv.put ⟨0, .all, 0, 0⟩
  else if r.cur = 92 then (r.escR behind).put ⟨0, Bs.zero.put (r.escV behind), 0, 0⟩
  else r.adv.put ⟨0, Bs.zero.put r.cur, 0, 0⟩
def bump (x : Inst) : Inst := if x.kind = 1 ∨ x.kind = 2 then { x with a := x.a + 1, b := x.b + 1 } else x
def shift (r : Rd) (p : Nat) : Rd := { r with l := r.l.take p ++ r.l.getD p ⟨0, .zero, 0, 0⟩ :: (r.l.drop p).map bump }
def setAt (r : Rd) (p : Nat) (x : Inst) : Rd := { r with l := r.l.set p x }
def many (r : Rd) (p : Nat) : Rd :=
  if r.isB 43 then (r.isR 43).put ⟨1, .zero, p, (r.isR 43).l.length + 1⟩
  else if r.isB 63 then ((r.isR 63).shift p).setAt p ⟨1, .zero, p + 1, ((r.isR 63).shift p).l.length⟩
  else if r.isB 42 then (((r.isR 42).shift p).put ⟨2, .zero, p, 0⟩).setAt p ⟨1, .zero, p + 1, (((r.isR 42).shift p).put ⟨2, .zero, p, 0⟩).l.length⟩
  else r
def stops (r : Rd) : Bool := !r.has || r.cur == 124 || r.cur == 41
def noAtom (r : Rd) : Bool := [42, 43, 63, 93].contains r.cur
def pieces (grp : Rd → Rd) : Nat → Rd → Rd
  | 0, r => r
  | n + 1, r => if r.stops then r else if r.noAtom then r.fail 2 r.at_ else pieces grp n ((r.atom grp).many r.l.length)
/-- behind a stroke of alternatives -/
def altOnce (r : Rd) (p : Nat) : Rd := (((r.isR 124).shift p).put ⟨2, .zero, 0, 0⟩).setAt p ⟨1, .zero, p + 1, (((r.isR 124).shift p).put ⟨2, .zero, 0, 0⟩).l.length⟩
def altsR (grp : Rd → Rd) : Nat → Rd → Rd
  | 0, r => r
  | n + 1, r => if (pieces grp r.fuel r).isB 124 then altsR grp n ((pieces grp r.fuel r).altOnce r.l.length) else pieces grp r.fuel r
def altsO (grp : Rd → Rd) : Nat → Rd → List Nat → List Nat
  | 0, _, o => o
  | n + 1, r, o => if (pieces grp r.fuel r).isB 124 then altsO grp n ((pieces grp r.fuel r).altOnce r.l.length) (o ++ [((pieces grp r.fuel r).shift r.l.length).l.length]) else o
def setA (l : List Inst) (v : Nat) : List Nat → List Inst
  | [] => l
  | p :: o => setA (l.modify p fun x => { x with a := v }) v o
def alts (grp : Rd → Rd) (r : Rd) : Rd := { altsR grp r.fuel r with l := setA (altsR grp r.fuel r).l (altsR grp r.fuel r).l.length (altsO grp r.fuel r []) }
def opened (r : Rd) : Rd := ⟨r.s, r.at_ + 1, r.deep + 1, r.l, r.err, r.bad⟩
def withDeep (r : Rd) (d : Nat) : Rd := ⟨r.s, r.at_, d, r.l, r.err, r.bad⟩
/-- a pattern in brackets: k is how many more may be open -/
def group : Nat → Rd → Rd
  | 0, r => r.fail 6 r.at_
  | k + 1, r =>
    if ((alts (group k) r.opened).withDeep r.deep).isB 41 then ((alts (group k) r.opened).withDeep r.deep).isR 41
    else ((alts (group k) r.opened).withDeep r.deep).fail 2 (alts (group k) r.opened).at_
end Rd

def start (s : ByteArray) : Rd := ⟨s, 0, 0, [], 0, 0⟩
def read (s : ByteArray) : Rd := Rd.alts (Rd.group 40) (start s)
def readEnd (s : ByteArray) : Rd := if (read s).at_ < s.size then (read s).fail 2 (read s).at_ else read s
/-- the program, if there is one -/
def progOf (s : ByteArray) : List Inst := (readEnd s).l ++ [⟨3, .zero, 0, 0⟩]
def errOf (s : ByteArray) : Nat := if 4096 < s.size then 6 else (readEnd s).err
def badOf (s : ByteArray) : Nat := if 4096 < s.size then 0 else if (readEnd s).err = 0 then 0 else (readEnd s).bad
end Go.Proofs.YtnbgigdloehbjaaGreatDoor.Rg
