/-
  DERIVED. GIVEN WITH THE SEED: THE CARDS: each row of YtdmmmdnfofoefaaDoorRows.lean that lists a variable, with what it lists TIED to the program's text (the seventh form; the later family's looks); each row that meets fmt, with fmt's text TOLD by the authors' own Lean function (tested against real Go, not proved from fmt's source: count such statements apart). THE CARD IS WHAT COUNTS. Prove the row's statement (the work); the ties are given (YtdmmmdnfofoefaaDoorTie.lean); close each card by the builder's one call (the guide's Derived/Test/ToyasCard.lean, 'card_holds'). Laid BY PROGRAM, IN A SANDBOX (cutbox-door.mjs). By AI agents, Wed Nov 11 2026. No macro, syntax, notation, axiom, sorry.
-/
import Derived.Test.YtdmmmdnfofoefaaDoorRows
import GoSem.ClaimSeven
namespace Go.Proofs.YtdmmmdnfofoefaaDoor
namespace Rows

/-- THE TIED CARD OF 'isobarlaw17.LexIs'. -/
def lexIsCard : Claim7 := { stood := { row := lexIsRow, standIns := [], harness := (true, "7176306152c0e86835ec11ee8b2f309adfe5245b194cae8659f97e5f57abdd2d"), looks := true }, kinds := [], alts := [], laidByText := true, laidKinds := [.data, .data, .widerDeep, .widerDeep, .data, .data, .data, .data, .data, .sentinel, .sentinel, .pinned, .pinned], laidTests := true, laidLooks := .later }
def LexIsCardSaid : Prop := Claim7.holds Tryd.pinned (.plain (OpenSpec.ofChange lexIsSpec)) lexIsCard

/-- THE SECOND FORM's CARD OF 'isobarlaw17.LexIs'. -/
def lexIsUptoCard : Claim7 := { stood := { row := lexIsUptoRow, standIns := [], harness := (true, "7176306152c0e86835ec11ee8b2f309adfe5245b194cae8659f97e5f57abdd2d"), looks := true }, kinds := [], alts := [], laidByText := true, laidKinds := [.data, .data, .widerDeep, .widerDeep, .data, .data, .data, .data, .data, .sentinel, .sentinel, .pinned, .pinned], laidTests := true, laidLooks := .later }
def LexIsUptoCardSaid : Prop := Claim7.holds Tryd.pinned (.plain (OpenSpec.upto lexIsSpec)) lexIsUptoCard
end Rows
end Go.Proofs.YtdmmmdnfofoefaaDoor
