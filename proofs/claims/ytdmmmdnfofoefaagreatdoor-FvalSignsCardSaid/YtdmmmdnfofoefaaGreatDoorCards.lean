/-
  DERIVED. GIVEN WITH THE SEED: THE CARDS: each row of YtdmmmdnfofoefaaGreatDoorRows.lean that lists a variable, with what it lists TIED to the program's text (the seventh form; the later family's looks); each row that meets fmt, with fmt's text TOLD by the authors' own Lean function (tested against real Go, not proved from fmt's source: count such statements apart). THE CARD IS WHAT COUNTS. Prove the row's statement (the work); the ties are given (YtdmmmdnfofoefaaGreatDoorTie.lean); close each card by the builder's one call (the guide's Derived/Test/ToyasCard.lean, 'card_holds'). Laid BY PROGRAM, IN A SANDBOX (cutbox-door.mjs). By AI agents, Wed Nov 11 2026. No macro, syntax, notation, axiom, sorry.
-/
import Derived.Test.YtdmmmdnfofoefaaGreatDoorRows
import GoSem.ClaimSeven
namespace Go.Proofs.YtdmmmdnfofoefaaGreatDoor
namespace Rows

/-- THE TIED CARD OF 'isobarlaw1.FvalHolds'. -/
def fvalHoldsCard : Claim7 := { stood := { row := fvalHoldsRow, standIns := [], harness := (true, "63d5b51a9db6471a90d8eb9347a241ab07ba66d0c4b239c0870b4ed49ccc7657"), looks := true }, kinds := [], alts := [], laidByText := true, laidKinds := [.data, .data, .widerDeep, .widerDeep, .data, .data, .data, .data, .data, .sentinel, .sentinel, .pinned, .pinned], laidTests := true, laidLooks := .later }
def FvalHoldsCardSaid : Prop := Claim7.holds Tryz.pinned (.plain (OpenSpec.ofChange fvalHoldsSpec)) fvalHoldsCard

/-- THE TIED CARD OF 'isobarlaw1.FvalSums'. -/
def fvalSumsCard : Claim7 := { stood := { row := fvalSumsRow, standIns := [], harness := (true, "63d5b51a9db6471a90d8eb9347a241ab07ba66d0c4b239c0870b4ed49ccc7657"), looks := true }, kinds := [], alts := [], laidByText := true, laidKinds := [.data, .data, .widerDeep, .widerDeep, .data, .data, .data, .data, .data, .sentinel, .sentinel, .pinned, .pinned], laidTests := true, laidLooks := .later }
def FvalSumsCardSaid : Prop := Claim7.holds Tryz.pinned (.plain (OpenSpec.ofChange fvalSumsSpec)) fvalSumsCard

/-- THE TIED CARD OF 'isobarlaw1.FvalOrder'. -/
def fvalOrderCard : Claim7 := { stood := { row := fvalOrderRow, standIns := [], harness := (true, "63d5b51a9db6471a90d8eb9347a241ab07ba66d0c4b239c0870b4ed49ccc7657"), looks := true }, kinds := [], alts := [], laidByText := true, laidKinds := [.data, .data, .widerDeep, .widerDeep, .data, .data, .data, .data, .data, .sentinel, .sentinel, .pinned, .pinned], laidTests := true, laidLooks := .later }
def FvalOrderCardSaid : Prop := Claim7.holds Tryz.pinned (.plain (OpenSpec.ofChange fvalOrderSpec)) fvalOrderCard

/-- THE TIED CARD OF 'isobarlaw1.FvalSigns'. -/
def fvalSignsCard : Claim7 := { stood := { row := fvalSignsRow, standIns := [], harness := (true, "63d5b51a9db6471a90d8eb9347a241ab07ba66d0c4b239c0870b4ed49ccc7657"), looks := true }, kinds := [], alts := [], laidByText := true, laidKinds := [.data, .data, .widerDeep, .widerDeep, .data, .data, .data, .data, .data, .sentinel, .sentinel, .pinned, .pinned], laidTests := true, laidLooks := .later }
def FvalSignsCardSaid : Prop := Claim7.holds Tryz.pinned (.plain (OpenSpec.ofChange fvalSignsSpec)) fvalSignsCard

/-- THE TIED CARD OF 'isobarlaw1.FvalPairs'. -/
def fvalPairsCard : Claim7 := { stood := { row := fvalPairsRow, standIns := [], harness := (true, "63d5b51a9db6471a90d8eb9347a241ab07ba66d0c4b239c0870b4ed49ccc7657"), looks := true }, kinds := [], alts := [], laidByText := true, laidKinds := [.data, .data, .widerDeep, .widerDeep, .data, .data, .data, .data, .data, .sentinel, .sentinel, .pinned, .pinned], laidTests := true, laidLooks := .later }
def FvalPairsCardSaid : Prop := Claim7.holds Tryz.pinned (.plain (OpenSpec.ofChange fvalPairsSpec)) fvalPairsCard

/-- THE SECOND FORM's CARD OF 'isobarlaw1.FvalHolds'. -/
def fvalHoldsUptoCard : Claim7 := { stood := { row := fvalHoldsUptoRow, standIns := [], harness := (true, "63d5b51a9db6471a90d8eb9347a241ab07ba66d0c4b239c0870b4ed49ccc7657"), looks := true }, kinds := [], alts := [], laidByText := true, laidKinds := [.data, .data, .widerDeep, .widerDeep, .data, .data, .data, .data, .data, .sentinel, .sentinel, .pinned, .pinned], laidTests := true, laidLooks := .later }
def FvalHoldsUptoCardSaid : Prop := Claim7.holds Tryz.pinned (.plain (OpenSpec.upto fvalHoldsSpec)) fvalHoldsUptoCard

/-- THE SECOND FORM's CARD OF 'isobarlaw1.FvalSums'. -/
def fvalSumsUptoCard : Claim7 := { stood := { row := fvalSumsUptoRow, standIns := [], harness := (true, "63d5b51a9db6471a90d8eb9347a241ab07ba66d0c4b239c0870b4ed49ccc7657"), looks := true }, kinds := [], alts := [], laidByText := true, laidKinds := [.data, .data, .widerDeep, .widerDeep, .data, .data, .data, .data, .data, .sentinel, .sentinel, .pinned, .pinned], laidTests := true, laidLooks := .later }
def FvalSumsUptoCardSaid : Prop := Claim7.holds Tryz.pinned (.plain (OpenSpec.upto fvalSumsSpec)) fvalSumsUptoCard

/-- THE SECOND FORM's CARD OF 'isobarlaw1.FvalOrder'. -/
def fvalOrderUptoCard : Claim7 := { stood := { row := fvalOrderUptoRow, standIns := [], harness := (true, "63d5b51a9db6471a90d8eb9347a241ab07ba66d0c4b239c0870b4ed49ccc7657"), looks := true }, kinds := [], alts := [], laidByText := true, laidKinds := [.data, .data, .widerDeep, .widerDeep, .data, .data, .data, .data, .data, .sentinel, .sentinel, .pinned, .pinned], laidTests := true, laidLooks := .later }
def FvalOrderUptoCardSaid : Prop := Claim7.holds Tryz.pinned (.plain (OpenSpec.upto fvalOrderSpec)) fvalOrderUptoCard

/-- THE SECOND FORM's CARD OF 'isobarlaw1.FvalSigns'. -/
def fvalSignsUptoCard : Claim7 := { stood := { row := fvalSignsUptoRow, standIns := [], harness := (true, "63d5b51a9db6471a90d8eb9347a241ab07ba66d0c4b239c0870b4ed49ccc7657"), looks := true }, kinds := [], alts := [], laidByText := true, laidKinds := [.data, .data, .widerDeep, .widerDeep, .data, .data, .data, .data, .data, .sentinel, .sentinel, .pinned, .pinned], laidTests := true, laidLooks := .later }
def FvalSignsUptoCardSaid : Prop := Claim7.holds Tryz.pinned (.plain (OpenSpec.upto fvalSignsSpec)) fvalSignsUptoCard

/-- THE SECOND FORM's CARD OF 'isobarlaw1.FvalPairs'. -/
def fvalPairsUptoCard : Claim7 := { stood := { row := fvalPairsUptoRow, standIns := [], harness := (true, "63d5b51a9db6471a90d8eb9347a241ab07ba66d0c4b239c0870b4ed49ccc7657"), looks := true }, kinds := [], alts := [], laidByText := true, laidKinds := [.data, .data, .widerDeep, .widerDeep, .data, .data, .data, .data, .data, .sentinel, .sentinel, .pinned, .pinned], laidTests := true, laidLooks := .later }
def FvalPairsUptoCardSaid : Prop := Claim7.holds Tryz.pinned (.plain (OpenSpec.upto fvalPairsSpec)) fvalPairsUptoCard
end Rows
end Go.Proofs.YtdmmmdnfofoefaaGreatDoor
