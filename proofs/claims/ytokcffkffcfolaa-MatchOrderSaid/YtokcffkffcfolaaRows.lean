/-
  No cell of these rows narrows 'for every input' (looked for: loops, veiled, ifaces, maps, wideKeys, modest, calm, conditions, laid).
  DERIVED. THE GIVEN ROWS OF THIS SEAT. 8 by the template 'for every input the law returns true; each argument reads behind the call as it read before'; 0 by the template 'total and deterministic' (their statements: YtokcffkffcfolaaTotals.lean).
  GIVEN WITH THE SEED: the statements are not yours to turn. If you find one false, say at which input.
  Laid BY PROGRAM, IN A SANDBOX (cutbox-rows.mjs): the forced cells as the released guide's own fill.sh prints them over the translation 801e942927a9173e… (all of the seat's roots in one cut). By AI agents, Wed Nov 11 2026. No macro, syntax, notation, axiom, sorry.
-/
import Derived.Test.YtokcffkffcfolaaChecked
import GoSem.Claim
import GoSem.ClaimJoined
import GoSem.ClaimMapViews
import Derived.JoinedTies
import Derived.KernelRfl
namespace Go.Proofs.Ytokcffkffcfolaa
/- THE CELL 'sum', in the pinned program and in every row, IS THE sha256 OF THE DUMP (.gsa) THAT YtokcffkffcfolaaProg.lean LOADS. Nothing in Lean hashes anything: it is a label: what it is worth is what the hold of that sum in a sandbox is worth. -/
noncomputable def Try.pinned : Pinned := { name := "ytokcffkffcfolaa", sum := "801e942927a9173e5d6f815bdce94a530a8d6230047f8263ae92b7ec932a568a", checked := Try.checked }
namespace Rows
def none {H : Type} : Left H := { results := [], args := [] }

/-- 'isobarlaw4.RegexJoins': WHATEVER THE INPUT: true; the input reads as it did. -/
def regexJoinsSpec : ChangeSpec := { name := "regexJoins", fn := fun _ => fun
  | [d1, d2, d3, d4] => { results := [.lit (.bool true)], args := [d1, d2, d3, d4] }
  | _ => none }
def regexJoinsRow : OpenClaim := { program := "ytokcffkffcfolaa", sum := "801e942927a9173e5d6f815bdce94a530a8d6230047f8263ae92b7ec932a568a", func := "isobar/isobarlaw4.RegexJoins", spec := "regexJoins", inPlace := ["internal/bytealg.IndexByteString"], recurses := true, apart := false }
def RegexJoinsSaid : Prop := regexJoinsRow.holds Try.pinned (OpenSpec.ofChange regexJoinsSpec)

/-- ITS FALSE NEIGHBOUR: 'it returns false'. Refute it at one input. -/
def regexJoinsWrong : ChangeSpec := { name := "regexJoins", fn := fun _ => fun
  | [d1, d2, d3, d4] => { results := [.lit (.bool false)], args := [d1, d2, d3, d4] }
  | _ => none }
def RegexJoinsWrongFalsely : Prop := regexJoinsRow.holds Try.pinned (OpenSpec.ofChange regexJoinsWrong)

/-- 'isobarlaw4.RegexSets': WHATEVER THE INPUT: true; the input reads as it did. -/
def regexSetsSpec : ChangeSpec := { name := "regexSets", fn := fun _ => fun
  | [d1, d2] => { results := [.lit (.bool true)], args := [d1, d2] }
  | _ => none }
def regexSetsRow : OpenClaim := { program := "ytokcffkffcfolaa", sum := "801e942927a9173e5d6f815bdce94a530a8d6230047f8263ae92b7ec932a568a", func := "isobar/isobarlaw4.RegexSets", spec := "regexSets", inPlace := ["internal/bytealg.IndexByteString"], recurses := true, apart := false }
def RegexSetsSaid : Prop := regexSetsRow.holds Try.pinned (OpenSpec.ofChange regexSetsSpec)

/-- ITS FALSE NEIGHBOUR: 'it returns false'. Refute it at one input. -/
def regexSetsWrong : ChangeSpec := { name := "regexSets", fn := fun _ => fun
  | [d1, d2] => { results := [.lit (.bool false)], args := [d1, d2] }
  | _ => none }
def RegexSetsWrongFalsely : Prop := regexSetsRow.holds Try.pinned (OpenSpec.ofChange regexSetsWrong)

/-- 'isobarlaw4.RegexRepeats': WHATEVER THE INPUT: true; the input reads as it did. -/
def regexRepeatsSpec : ChangeSpec := { name := "regexRepeats", fn := fun _ => fun
  | [d1, d2] => { results := [.lit (.bool true)], args := [d1, d2] }
  | _ => none }
def regexRepeatsRow : OpenClaim := { program := "ytokcffkffcfolaa", sum := "801e942927a9173e5d6f815bdce94a530a8d6230047f8263ae92b7ec932a568a", func := "isobar/isobarlaw4.RegexRepeats", spec := "regexRepeats", inPlace := ["internal/bytealg.IndexByteString"], recurses := true, apart := false }
def RegexRepeatsSaid : Prop := regexRepeatsRow.holds Try.pinned (OpenSpec.ofChange regexRepeatsSpec)

/-- ITS FALSE NEIGHBOUR: 'it returns false'. Refute it at one input. -/
def regexRepeatsWrong : ChangeSpec := { name := "regexRepeats", fn := fun _ => fun
  | [d1, d2] => { results := [.lit (.bool false)], args := [d1, d2] }
  | _ => none }
def RegexRepeatsWrongFalsely : Prop := regexRepeatsRow.holds Try.pinned (OpenSpec.ofChange regexRepeatsWrong)

/-- 'isobarlaw4.RegexNested': WHATEVER THE INPUT: true; the input reads as it did. -/
def regexNestedSpec : ChangeSpec := { name := "regexNested", fn := fun _ => fun
  | [d1, d2, d3] => { results := [.lit (.bool true)], args := [d1, d2, d3] }
  | _ => none }
def regexNestedRow : OpenClaim := { program := "ytokcffkffcfolaa", sum := "801e942927a9173e5d6f815bdce94a530a8d6230047f8263ae92b7ec932a568a", func := "isobar/isobarlaw4.RegexNested", spec := "regexNested", inPlace := ["internal/bytealg.IndexByteString"], recurses := true, apart := false }
def RegexNestedSaid : Prop := regexNestedRow.holds Try.pinned (OpenSpec.ofChange regexNestedSpec)

/-- ITS FALSE NEIGHBOUR: 'it returns false'. Refute it at one input. -/
def regexNestedWrong : ChangeSpec := { name := "regexNested", fn := fun _ => fun
  | [d1, d2, d3] => { results := [.lit (.bool false)], args := [d1, d2, d3] }
  | _ => none }
def RegexNestedWrongFalsely : Prop := regexNestedRow.holds Try.pinned (OpenSpec.ofChange regexNestedWrong)

/-- 'isobarlaw4.RegexMatches': WHATEVER THE INPUT: true; the input reads as it did. -/
def regexMatchesSpec : ChangeSpec := { name := "regexMatches", fn := fun _ => fun
  | [d1, d2] => { results := [.lit (.bool true)], args := [d1, d2] }
  | _ => none }
def regexMatchesRow : OpenClaim := { program := "ytokcffkffcfolaa", sum := "801e942927a9173e5d6f815bdce94a530a8d6230047f8263ae92b7ec932a568a", func := "isobar/isobarlaw4.RegexMatches", spec := "regexMatches", inPlace := ["internal/bytealg.IndexByteString"], recurses := true, apart := false }
def RegexMatchesSaid : Prop := regexMatchesRow.holds Try.pinned (OpenSpec.ofChange regexMatchesSpec)

/-- ITS FALSE NEIGHBOUR: 'it returns false'. Refute it at one input. -/
def regexMatchesWrong : ChangeSpec := { name := "regexMatches", fn := fun _ => fun
  | [d1, d2] => { results := [.lit (.bool false)], args := [d1, d2] }
  | _ => none }
def RegexMatchesWrongFalsely : Prop := regexMatchesRow.holds Try.pinned (OpenSpec.ofChange regexMatchesWrong)

/-- 'isobarlaw4.RegexEscapes': WHATEVER THE INPUT: true; the input reads as it did. -/
def regexEscapesSpec : ChangeSpec := { name := "regexEscapes", fn := fun _ => fun
  | [d1, d2, d3] => { results := [.lit (.bool true)], args := [d1, d2, d3] }
  | _ => none }
def regexEscapesRow : OpenClaim := { program := "ytokcffkffcfolaa", sum := "801e942927a9173e5d6f815bdce94a530a8d6230047f8263ae92b7ec932a568a", func := "isobar/isobarlaw4.RegexEscapes", spec := "regexEscapes", inPlace := ["internal/bytealg.IndexByteString"], recurses := true, apart := false }
def RegexEscapesSaid : Prop := regexEscapesRow.holds Try.pinned (OpenSpec.ofChange regexEscapesSpec)

/-- ITS FALSE NEIGHBOUR: 'it returns false'. Refute it at one input. -/
def regexEscapesWrong : ChangeSpec := { name := "regexEscapes", fn := fun _ => fun
  | [d1, d2, d3] => { results := [.lit (.bool false)], args := [d1, d2, d3] }
  | _ => none }
def RegexEscapesWrongFalsely : Prop := regexEscapesRow.holds Try.pinned (OpenSpec.ofChange regexEscapesWrong)

/-- 'isobarlaw5.MatchTexts': WHATEVER THE INPUT: true; the input reads as it did. -/
def matchTextsSpec : ChangeSpec := { name := "matchTexts", fn := fun _ => fun
  | [d1, d2] => { results := [.lit (.bool true)], args := [d1, d2] }
  | _ => none }
def matchTextsRow : OpenClaim := { program := "ytokcffkffcfolaa", sum := "801e942927a9173e5d6f815bdce94a530a8d6230047f8263ae92b7ec932a568a", func := "isobar/isobarlaw5.MatchTexts", spec := "matchTexts", inPlace := ["internal/bytealg.IndexByteString"], recurses := true, apart := false }
def MatchTextsSaid : Prop := matchTextsRow.holds Try.pinned (OpenSpec.ofChange matchTextsSpec)

/-- ITS FALSE NEIGHBOUR: 'it returns false'. Refute it at one input. -/
def matchTextsWrong : ChangeSpec := { name := "matchTexts", fn := fun _ => fun
  | [d1, d2] => { results := [.lit (.bool false)], args := [d1, d2] }
  | _ => none }
def MatchTextsWrongFalsely : Prop := matchTextsRow.holds Try.pinned (OpenSpec.ofChange matchTextsWrong)

/-- 'isobarlaw5.MatchOrder': WHATEVER THE INPUT: true; the input reads as it did. -/
def matchOrderSpec : ChangeSpec := { name := "matchOrder", fn := fun _ => fun
  | [d1, d2, d3] => { results := [.lit (.bool true)], args := [d1, d2, d3] }
  | _ => none }
def matchOrderRow : OpenClaim := { program := "ytokcffkffcfolaa", sum := "801e942927a9173e5d6f815bdce94a530a8d6230047f8263ae92b7ec932a568a", func := "isobar/isobarlaw5.MatchOrder", spec := "matchOrder", inPlace := ["internal/bytealg.IndexByteString"], recurses := true, apart := false }
def MatchOrderSaid : Prop := matchOrderRow.holds Try.pinned (OpenSpec.ofChange matchOrderSpec)

/-- ITS FALSE NEIGHBOUR: 'it returns false'. Refute it at one input. -/
def matchOrderWrong : ChangeSpec := { name := "matchOrder", fn := fun _ => fun
  | [d1, d2, d3] => { results := [.lit (.bool false)], args := [d1, d2, d3] }
  | _ => none }
def MatchOrderWrongFalsely : Prop := matchOrderRow.holds Try.pinned (OpenSpec.ofChange matchOrderWrong)

/- THE SECOND FORM. 'bulk': how many values and letters a reading holds, each counted each time it is reached (what is shared counts as often as it is met; a slice's spare places count too). A statement '..UptoSaid' is the law's where the arguments, and the package variables that the reading takes, are together of bulk at most 1048576: NARROWER than '..Said'. Prove '..Said' where nothing that the law and all that it calls make is longer than what came in: it says more and counts as full. Else prove '..UptoSaid'. A law counts once. -/
mutual
def uptoBulk {H : Type} : DataW H → Nat
  | .lit (.string bytes) => bytes.length + 1
  | .lit _ => 1
  | .nil => 1
  | .ptr d => uptoBulk d + 1
  | .slice elems spare => uptoBulkAll elems + uptoBulkAll spare + 1
  | .agg parts => uptoBulkAll parts + 1
  | .iface _ d => uptoBulk d + 1
  | .map entries => uptoBulkEntries entries + 1
  | .held _ => 1
def uptoBulkAll {H : Type} : List (DataW H) → Nat
  | [] => 0
  | d :: r => uptoBulk d + uptoBulkAll r
def uptoBulkEntries {H : Type} : List (Lit × DataW H) → Nat
  | [] => 0
  | x :: r => uptoBulkEntry x + uptoBulkEntries r
def uptoBulkEntry {H : Type} : Lit × DataW H → Nat
  | (.string bytes, d) => bytes.length + uptoBulk d + 1
  | (_, d) => uptoBulk d + 1
 end
def uptoSmall : (H : Type) → List (DataW H) → Bool := fun _ ds => decide (uptoBulkAll ds ≤ 1048576)
def OpenSpec.upto (s : _root_.Go.ChangeSpec) : _root_.Go.OpenSpec := { _root_.Go.OpenSpec.ofChange s with cond := some uptoSmall }

/-- 'isobarlaw4.RegexJoins', WHERE WHAT IT READS IS OF BULK AT MOST 1048576: true; the input reads as it did. -/
def regexJoinsUptoRow : OpenClaim := { program := "ytokcffkffcfolaa", sum := "801e942927a9173e5d6f815bdce94a530a8d6230047f8263ae92b7ec932a568a", func := "isobar/isobarlaw4.RegexJoins", spec := "regexJoins", inPlace := ["internal/bytealg.IndexByteString"], recurses := true, apart := false, narrowed := true }
def RegexJoinsUptoSaid : Prop := regexJoinsUptoRow.holds Try.pinned (OpenSpec.upto regexJoinsSpec)

/-- 'isobarlaw4.RegexSets', WHERE WHAT IT READS IS OF BULK AT MOST 1048576: true; the input reads as it did. -/
def regexSetsUptoRow : OpenClaim := { program := "ytokcffkffcfolaa", sum := "801e942927a9173e5d6f815bdce94a530a8d6230047f8263ae92b7ec932a568a", func := "isobar/isobarlaw4.RegexSets", spec := "regexSets", inPlace := ["internal/bytealg.IndexByteString"], recurses := true, apart := false, narrowed := true }
def RegexSetsUptoSaid : Prop := regexSetsUptoRow.holds Try.pinned (OpenSpec.upto regexSetsSpec)

/-- 'isobarlaw4.RegexRepeats', WHERE WHAT IT READS IS OF BULK AT MOST 1048576: true; the input reads as it did. -/
def regexRepeatsUptoRow : OpenClaim := { program := "ytokcffkffcfolaa", sum := "801e942927a9173e5d6f815bdce94a530a8d6230047f8263ae92b7ec932a568a", func := "isobar/isobarlaw4.RegexRepeats", spec := "regexRepeats", inPlace := ["internal/bytealg.IndexByteString"], recurses := true, apart := false, narrowed := true }
def RegexRepeatsUptoSaid : Prop := regexRepeatsUptoRow.holds Try.pinned (OpenSpec.upto regexRepeatsSpec)

/-- 'isobarlaw4.RegexNested', WHERE WHAT IT READS IS OF BULK AT MOST 1048576: true; the input reads as it did. -/
def regexNestedUptoRow : OpenClaim := { program := "ytokcffkffcfolaa", sum := "801e942927a9173e5d6f815bdce94a530a8d6230047f8263ae92b7ec932a568a", func := "isobar/isobarlaw4.RegexNested", spec := "regexNested", inPlace := ["internal/bytealg.IndexByteString"], recurses := true, apart := false, narrowed := true }
def RegexNestedUptoSaid : Prop := regexNestedUptoRow.holds Try.pinned (OpenSpec.upto regexNestedSpec)

/-- 'isobarlaw4.RegexMatches', WHERE WHAT IT READS IS OF BULK AT MOST 1048576: true; the input reads as it did. -/
def regexMatchesUptoRow : OpenClaim := { program := "ytokcffkffcfolaa", sum := "801e942927a9173e5d6f815bdce94a530a8d6230047f8263ae92b7ec932a568a", func := "isobar/isobarlaw4.RegexMatches", spec := "regexMatches", inPlace := ["internal/bytealg.IndexByteString"], recurses := true, apart := false, narrowed := true }
def RegexMatchesUptoSaid : Prop := regexMatchesUptoRow.holds Try.pinned (OpenSpec.upto regexMatchesSpec)

/-- 'isobarlaw4.RegexEscapes', WHERE WHAT IT READS IS OF BULK AT MOST 1048576: true; the input reads as it did. -/
def regexEscapesUptoRow : OpenClaim := { program := "ytokcffkffcfolaa", sum := "801e942927a9173e5d6f815bdce94a530a8d6230047f8263ae92b7ec932a568a", func := "isobar/isobarlaw4.RegexEscapes", spec := "regexEscapes", inPlace := ["internal/bytealg.IndexByteString"], recurses := true, apart := false, narrowed := true }
def RegexEscapesUptoSaid : Prop := regexEscapesUptoRow.holds Try.pinned (OpenSpec.upto regexEscapesSpec)

/-- 'isobarlaw5.MatchTexts', WHERE WHAT IT READS IS OF BULK AT MOST 1048576: true; the input reads as it did. -/
def matchTextsUptoRow : OpenClaim := { program := "ytokcffkffcfolaa", sum := "801e942927a9173e5d6f815bdce94a530a8d6230047f8263ae92b7ec932a568a", func := "isobar/isobarlaw5.MatchTexts", spec := "matchTexts", inPlace := ["internal/bytealg.IndexByteString"], recurses := true, apart := false, narrowed := true }
def MatchTextsUptoSaid : Prop := matchTextsUptoRow.holds Try.pinned (OpenSpec.upto matchTextsSpec)

/-- 'isobarlaw5.MatchOrder', WHERE WHAT IT READS IS OF BULK AT MOST 1048576: true; the input reads as it did. -/
def matchOrderUptoRow : OpenClaim := { program := "ytokcffkffcfolaa", sum := "801e942927a9173e5d6f815bdce94a530a8d6230047f8263ae92b7ec932a568a", func := "isobar/isobarlaw5.MatchOrder", spec := "matchOrder", inPlace := ["internal/bytealg.IndexByteString"], recurses := true, apart := false, narrowed := true }
def MatchOrderUptoSaid : Prop := matchOrderUptoRow.holds Try.pinned (OpenSpec.upto matchOrderSpec)

end Rows
end Go.Proofs.Ytokcffkffcfolaa
