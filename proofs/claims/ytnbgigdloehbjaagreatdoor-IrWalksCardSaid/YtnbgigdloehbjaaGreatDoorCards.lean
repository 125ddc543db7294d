/-
  DERIVED. GIVEN WITH THE SEED: THE CARDS: each row of YtnbgigdloehbjaaGreatDoorRows.lean that lists a variable, with what it lists TIED to the program's text (the seventh form; the later family's looks); each row that meets fmt, with fmt's text TOLD by the authors' own Lean function (tested against real Go, not proved from fmt's source: count such statements apart). THE CARD IS WHAT COUNTS. Prove the row's statement (the work); the ties are given (YtnbgigdloehbjaaGreatDoorTie.lean); close each card by the builder's one call (the guide's Derived/Test/ToyasCard.lean, 'card_holds'). Laid BY PROGRAM, IN A SANDBOX (cutbox-door.mjs). By AI agents, Wed Nov 11 2026. No macro, syntax, notation, axiom, sorry.
-/
import Derived.Test.YtnbgigdloehbjaaGreatDoorRows
import GoSem.ClaimSeven
namespace Go.Proofs.YtnbgigdloehbjaaGreatDoor
namespace Rows

/-- THE TIED CARD OF 'isobarlaw12.IrWraps'. -/
def irWrapsCard : Claim7 := { stood := { row := irWrapsRow, standIns := [], harness := (true, "ff549cdfbff94a496ca929b170ecb5b468d301ea00ab3b3e2a1edf98fb885b03"), looks := false }, kinds := [], alts := [], laidByText := true, laidKinds := [.data, .data, .data, .data, .pinned, .pinned], laidTests := true, laidLooks := .later }
def IrWrapsCardSaid : Prop := Claim7.holds Tryz.pinned (.plain (OpenSpec.ofChange irWrapsSpec)) irWrapsCard

/-- THE TIED CARD OF 'isobarlaw12.IrWalks'. -/
def irWalksCard : Claim7 := { stood := { row := irWalksRow, standIns := [], harness := (true, "ff549cdfbff94a496ca929b170ecb5b468d301ea00ab3b3e2a1edf98fb885b03"), looks := false }, kinds := [], alts := [], laidByText := true, laidKinds := [.data, .data, .data, .data, .pinned, .pinned], laidTests := true, laidLooks := .later }
def IrWalksCardSaid : Prop := Claim7.holds Tryz.pinned (.plain (OpenSpec.ofChange irWalksSpec)) irWalksCard

/-- THE SECOND FORM's CARD OF 'isobarlaw12.IrWraps'. -/
def irWrapsUptoCard : Claim7 := { stood := { row := irWrapsUptoRow, standIns := [], harness := (true, "ff549cdfbff94a496ca929b170ecb5b468d301ea00ab3b3e2a1edf98fb885b03"), looks := false }, kinds := [], alts := [], laidByText := true, laidKinds := [.data, .data, .data, .data, .pinned, .pinned], laidTests := true, laidLooks := .later }
def IrWrapsUptoCardSaid : Prop := Claim7.holds Tryz.pinned (.plain (OpenSpec.upto irWrapsSpec)) irWrapsUptoCard

/-- THE SECOND FORM's CARD OF 'isobarlaw12.IrWalks'. -/
def irWalksUptoCard : Claim7 := { stood := { row := irWalksUptoRow, standIns := [], harness := (true, "ff549cdfbff94a496ca929b170ecb5b468d301ea00ab3b3e2a1edf98fb885b03"), looks := false }, kinds := [], alts := [], laidByText := true, laidKinds := [.data, .data, .data, .data, .pinned, .pinned], laidTests := true, laidLooks := .later }
def IrWalksUptoCardSaid : Prop := Claim7.holds Tryz.pinned (.plain (OpenSpec.upto irWalksSpec)) irWalksUptoCard
end Rows
end Go.Proofs.YtnbgigdloehbjaaGreatDoor
