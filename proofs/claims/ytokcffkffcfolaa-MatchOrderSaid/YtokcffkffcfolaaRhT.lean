/-
  The document's trees: plain; what its reader makes.
-/
import Derived.Test.YtokcffkffcfolaaRgV
namespace Go.Proofs.Ytokcffkffcfolaa.Rh
open Go Go.Proofs.Ytokcffkffcfolaa.Rg

/-- A tree of the document's: a byte of a set; a node of a kind with its kids; a row of kids. -/
inductive T where
  | set (S : Bs)
  | node (k : Nat) (l : T)
  | nil
  | snoc (l n : T)
def T.len : T → Nat
  | .snoc l _ => l.len + 1
  | _ => 0

/-! The tree -/
def manyT (r : Rd) (t : T) : T := if r.isB 43 = true then .node 5 (.snoc .nil t) else if r.isB 63 = true then .node 6 (.snoc .nil t) else if r.isB 42 = true then .node 4 (.snoc .nil t) else t
def atomT (grpT : Rd → T) (r : Rd) : T :=
  if r.cur = 91 then .set r.classS
  else if r.cur = 40 then grpT r
  else if r.cur = 46 then .set .all
  else if r.cur = 92 then .set (Bs.zero.put (r.escV Rd.behind))
  else .set (Bs.zero.put r.cur)
def piecesT (grp : Rd → Rd) (grpT : Rd → T) : Nat → Rd → T → T
  | 0, _, l => l
  | n + 1, r, l => if r.stops = true then l else if r.noAtom = true then l else piecesT grp grpT n ((r.atom grp).many r.l.length) (.snoc l (manyT (r.atom grp) (atomT grpT r)))
def catT (grp : Rd → Rd) (grpT : Rd → T) (r : Rd) : T := .node 1 (piecesT grp grpT r.fuel r .nil)
def altsT (grp : Rd → Rd) (grpT : Rd → T) : Nat → Rd → T → T
  | 0, _, l => l
  | n + 1, r, l => if (Rd.pieces grp r.fuel r).isB 124 = true then altsT grp grpT n ((Rd.pieces grp r.fuel r).altOnce r.l.length) (.snoc l (catT grp grpT r)) else .snoc l (catT grp grpT r)
def orT (grp : Rd → Rd) (grpT : Rd → T) (r : Rd) : T := .node 2 (altsT grp grpT r.fuel r .nil)
def groupT : Nat → Rd → T
  | 0, _ => .set .zero
  | k + 1, r => orT (Rd.group k) (groupT k) r.opened

end Go.Proofs.Ytokcffkffcfolaa.Rh
