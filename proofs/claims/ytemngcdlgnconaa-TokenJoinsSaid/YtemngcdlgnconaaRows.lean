/-
  No cell of these rows narrows 'for every input' (looked for: loops, veiled, ifaces, maps, wideKeys, modest, calm, conditions, laid).
  DERIVED. THE GIVEN ROWS OF THIS SEAT. 12 by the template 'for every input the law returns true; each argument reads behind the call as it read before'; 0 by the template 'total and deterministic' (their statements: YtemngcdlgnconaaTotals.lean).
  GIVEN WITH THE SEED: the statements are not yours to turn. If you find one false, say at which input.
  Laid BY PROGRAM, IN A SANDBOX (cutbox-rows.mjs): the forced cells as the released guide's own fill.sh prints them over the translation b5f88bfcb5809e2d… (all of the seat's roots in one cut). By AI agents, Wed Nov 11 2026. No macro, syntax, notation, axiom, sorry.
-/
import Derived.Test.YtemngcdlgnconaaChecked
import GoSem.Claim
import GoSem.ClaimJoined
import GoSem.ClaimMapViews
import Derived.JoinedTies
import Derived.KernelRfl
namespace Go.Proofs.Ytemngcdlgnconaa
/- THE CELL 'sum', in the pinned program and in every row, IS THE sha256 OF THE DUMP (.gsa) THAT YtemngcdlgnconaaProg.lean LOADS. Nothing in Lean hashes anything: it is a label: what it is worth is what the hold of that sum in a sandbox is worth. -/
noncomputable def Try.pinned : Pinned := { name := "ytemngcdlgnconaa", sum := "b5f88bfcb5809e2d39ac568ef50fa7afa05ca89880ef94d03a965f01ad68d465", checked := Try.checked }
namespace Rows
def none {H : Type} : Left H := { results := [], args := [] }

/-- 'ductuslaw15.TokenQuotes': WHATEVER THE INPUT: true; the input reads as it did. -/
def tokenQuotesSpec : ChangeSpec := { name := "tokenQuotes", fn := fun _ => fun
  | [d] => { results := [.lit (.bool true)], args := [d] }
  | _ => none }
def tokenQuotesRow : OpenClaim := { program := "ytemngcdlgnconaa", sum := "b5f88bfcb5809e2d39ac568ef50fa7afa05ca89880ef94d03a965f01ad68d465", func := "ductus/ductuslaw15.TokenQuotes", spec := "tokenQuotes", inPlace := ["internal/bytealg.IndexByteString"], unfollowed := true, recurses := true, apart := false }
def TokenQuotesSaid : Prop := tokenQuotesRow.holds Try.pinned (OpenSpec.ofChange tokenQuotesSpec)

/-- ITS FALSE NEIGHBOUR: 'it returns false'. Refute it at one input. -/
def tokenQuotesWrong : ChangeSpec := { name := "tokenQuotes", fn := fun _ => fun
  | [d] => { results := [.lit (.bool false)], args := [d] }
  | _ => none }
def TokenQuotesWrongFalsely : Prop := tokenQuotesRow.holds Try.pinned (OpenSpec.ofChange tokenQuotesWrong)

/-- 'ductuslaw15.TokenPlaces': WHATEVER THE INPUT: true; the input reads as it did. -/
def tokenPlacesSpec : ChangeSpec := { name := "tokenPlaces", fn := fun _ => fun
  | [d] => { results := [.lit (.bool true)], args := [d] }
  | _ => none }
def tokenPlacesRow : OpenClaim := { program := "ytemngcdlgnconaa", sum := "b5f88bfcb5809e2d39ac568ef50fa7afa05ca89880ef94d03a965f01ad68d465", func := "ductus/ductuslaw15.TokenPlaces", spec := "tokenPlaces", inPlace := ["internal/bytealg.IndexByteString"], unfollowed := true, recurses := true, apart := false }
def TokenPlacesSaid : Prop := tokenPlacesRow.holds Try.pinned (OpenSpec.ofChange tokenPlacesSpec)

/-- ITS FALSE NEIGHBOUR: 'it returns false'. Refute it at one input. -/
def tokenPlacesWrong : ChangeSpec := { name := "tokenPlaces", fn := fun _ => fun
  | [d] => { results := [.lit (.bool false)], args := [d] }
  | _ => none }
def TokenPlacesWrongFalsely : Prop := tokenPlacesRow.holds Try.pinned (OpenSpec.ofChange tokenPlacesWrong)

/-- 'ductuslaw15.TokenJoins': WHATEVER THE INPUT: true; the input reads as it did. -/
def tokenJoinsSpec : ChangeSpec := { name := "tokenJoins", fn := fun _ => fun
  | [d1, d2] => { results := [.lit (.bool true)], args := [d1, d2] }
  | _ => none }
def tokenJoinsRow : OpenClaim := { program := "ytemngcdlgnconaa", sum := "b5f88bfcb5809e2d39ac568ef50fa7afa05ca89880ef94d03a965f01ad68d465", func := "ductus/ductuslaw15.TokenJoins", spec := "tokenJoins", inPlace := ["internal/bytealg.IndexByteString"], unfollowed := true, recurses := true, apart := false }
def TokenJoinsSaid : Prop := tokenJoinsRow.holds Try.pinned (OpenSpec.ofChange tokenJoinsSpec)

/-- ITS FALSE NEIGHBOUR: 'it returns false'. Refute it at one input. -/
def tokenJoinsWrong : ChangeSpec := { name := "tokenJoins", fn := fun _ => fun
  | [d1, d2] => { results := [.lit (.bool false)], args := [d1, d2] }
  | _ => none }
def TokenJoinsWrongFalsely : Prop := tokenJoinsRow.holds Try.pinned (OpenSpec.ofChange tokenJoinsWrong)

/-- 'ductuslaw15.TokenEscapes': WHATEVER THE INPUT: true; the input reads as it did. -/
def tokenEscapesSpec : ChangeSpec := { name := "tokenEscapes", fn := fun _ => fun
  | [d] => { results := [.lit (.bool true)], args := [d] }
  | _ => none }
def tokenEscapesRow : OpenClaim := { program := "ytemngcdlgnconaa", sum := "b5f88bfcb5809e2d39ac568ef50fa7afa05ca89880ef94d03a965f01ad68d465", func := "ductus/ductuslaw15.TokenEscapes", spec := "tokenEscapes", inPlace := ["internal/bytealg.IndexByteString"], unfollowed := true, recurses := true, apart := false }
def TokenEscapesSaid : Prop := tokenEscapesRow.holds Try.pinned (OpenSpec.ofChange tokenEscapesSpec)

/-- ITS FALSE NEIGHBOUR: 'it returns false'. Refute it at one input. -/
def tokenEscapesWrong : ChangeSpec := { name := "tokenEscapes", fn := fun _ => fun
  | [d] => { results := [.lit (.bool false)], args := [d] }
  | _ => none }
def TokenEscapesWrongFalsely : Prop := tokenEscapesRow.holds Try.pinned (OpenSpec.ofChange tokenEscapesWrong)

/-- 'ductuslaw04.FoldAnswers': WHATEVER THE INPUT: true; the input reads as it did. -/
def foldAnswersSpec : ChangeSpec := { name := "foldAnswers", fn := fun _ => fun
  | [d1, d2, d3] => { results := [.lit (.bool true)], args := [d1, d2, d3] }
  | _ => none }
def foldAnswersRow : OpenClaim := { program := "ytemngcdlgnconaa", sum := "b5f88bfcb5809e2d39ac568ef50fa7afa05ca89880ef94d03a965f01ad68d465", func := "ductus/ductuslaw04.FoldAnswers", spec := "foldAnswers", unfollowed := true, recurses := true, apart := false }
def FoldAnswersSaid : Prop := foldAnswersRow.holds Try.pinned (OpenSpec.ofChange foldAnswersSpec)

/-- ITS FALSE NEIGHBOUR: 'it returns false'. Refute it at one input. -/
def foldAnswersWrong : ChangeSpec := { name := "foldAnswers", fn := fun _ => fun
  | [d1, d2, d3] => { results := [.lit (.bool false)], args := [d1, d2, d3] }
  | _ => none }
def FoldAnswersWrongFalsely : Prop := foldAnswersRow.holds Try.pinned (OpenSpec.ofChange foldAnswersWrong)

/-- 'ductuslaw04.FoldKin': WHATEVER THE INPUT: true; the input reads as it did. -/
def foldKinSpec : ChangeSpec := { name := "foldKin", fn := fun _ => fun
  | [d1, d2] => { results := [.lit (.bool true)], args := [d1, d2] }
  | _ => none }
def foldKinRow : OpenClaim := { program := "ytemngcdlgnconaa", sum := "b5f88bfcb5809e2d39ac568ef50fa7afa05ca89880ef94d03a965f01ad68d465", func := "ductus/ductuslaw04.FoldKin", spec := "foldKin", unfollowed := true, recurses := true, apart := false }
def FoldKinSaid : Prop := foldKinRow.holds Try.pinned (OpenSpec.ofChange foldKinSpec)

/-- ITS FALSE NEIGHBOUR: 'it returns false'. Refute it at one input. -/
def foldKinWrong : ChangeSpec := { name := "foldKin", fn := fun _ => fun
  | [d1, d2] => { results := [.lit (.bool false)], args := [d1, d2] }
  | _ => none }
def FoldKinWrongFalsely : Prop := foldKinRow.holds Try.pinned (OpenSpec.ofChange foldKinWrong)

/-- 'ductuslaw04.FoldSames': WHATEVER THE INPUT: true; the input reads as it did. -/
def foldSamesSpec : ChangeSpec := { name := "foldSames", fn := fun _ => fun
  | [d1, d2] => { results := [.lit (.bool true)], args := [d1, d2] }
  | _ => none }
def foldSamesRow : OpenClaim := { program := "ytemngcdlgnconaa", sum := "b5f88bfcb5809e2d39ac568ef50fa7afa05ca89880ef94d03a965f01ad68d465", func := "ductus/ductuslaw04.FoldSames", spec := "foldSames", unfollowed := true, recurses := true, apart := false }
def FoldSamesSaid : Prop := foldSamesRow.holds Try.pinned (OpenSpec.ofChange foldSamesSpec)

/-- ITS FALSE NEIGHBOUR: 'it returns false'. Refute it at one input. -/
def foldSamesWrong : ChangeSpec := { name := "foldSames", fn := fun _ => fun
  | [d1, d2] => { results := [.lit (.bool false)], args := [d1, d2] }
  | _ => none }
def FoldSamesWrongFalsely : Prop := foldSamesRow.holds Try.pinned (OpenSpec.ofChange foldSamesWrong)

/-- 'ductuslaw10.BrackAnswers': WHATEVER THE INPUT: true; the input reads as it did. -/
def brackAnswersSpec : ChangeSpec := { name := "brackAnswers", fn := fun _ => fun
  | [d1, d2, d3] => { results := [.lit (.bool true)], args := [d1, d2, d3] }
  | _ => none }
def brackAnswersRow : OpenClaim := { program := "ytemngcdlgnconaa", sum := "b5f88bfcb5809e2d39ac568ef50fa7afa05ca89880ef94d03a965f01ad68d465", func := "ductus/ductuslaw10.BrackAnswers", spec := "brackAnswers", unfollowed := true, recurses := true, apart := false }
def BrackAnswersSaid : Prop := brackAnswersRow.holds Try.pinned (OpenSpec.ofChange brackAnswersSpec)

/-- ITS FALSE NEIGHBOUR: 'it returns false'. Refute it at one input. -/
def brackAnswersWrong : ChangeSpec := { name := "brackAnswers", fn := fun _ => fun
  | [d1, d2, d3] => { results := [.lit (.bool false)], args := [d1, d2, d3] }
  | _ => none }
def BrackAnswersWrongFalsely : Prop := brackAnswersRow.holds Try.pinned (OpenSpec.ofChange brackAnswersWrong)

/-- 'ductuslaw10.BrackTurns': WHATEVER THE INPUT: true; the input reads as it did. -/
def brackTurnsSpec : ChangeSpec := { name := "brackTurns", fn := fun _ => fun
  | [d1, d2, d3] => { results := [.lit (.bool true)], args := [d1, d2, d3] }
  | _ => none }
def brackTurnsRow : OpenClaim := { program := "ytemngcdlgnconaa", sum := "b5f88bfcb5809e2d39ac568ef50fa7afa05ca89880ef94d03a965f01ad68d465", func := "ductus/ductuslaw10.BrackTurns", spec := "brackTurns", unfollowed := true, recurses := true, apart := false }
def BrackTurnsSaid : Prop := brackTurnsRow.holds Try.pinned (OpenSpec.ofChange brackTurnsSpec)

/-- ITS FALSE NEIGHBOUR: 'it returns false'. Refute it at one input. -/
def brackTurnsWrong : ChangeSpec := { name := "brackTurns", fn := fun _ => fun
  | [d1, d2, d3] => { results := [.lit (.bool false)], args := [d1, d2, d3] }
  | _ => none }
def BrackTurnsWrongFalsely : Prop := brackTurnsRow.holds Try.pinned (OpenSpec.ofChange brackTurnsWrong)

/-- 'ductuslaw10.BrackPairs': WHATEVER THE INPUT: true; the input reads as it did. -/
def brackPairsSpec : ChangeSpec := { name := "brackPairs", fn := fun _ => fun
  | [d1, d2] => { results := [.lit (.bool true)], args := [d1, d2] }
  | _ => none }
def brackPairsRow : OpenClaim := { program := "ytemngcdlgnconaa", sum := "b5f88bfcb5809e2d39ac568ef50fa7afa05ca89880ef94d03a965f01ad68d465", func := "ductus/ductuslaw10.BrackPairs", spec := "brackPairs", unfollowed := true, recurses := true, apart := false }
def BrackPairsSaid : Prop := brackPairsRow.holds Try.pinned (OpenSpec.ofChange brackPairsSpec)

/-- ITS FALSE NEIGHBOUR: 'it returns false'. Refute it at one input. -/
def brackPairsWrong : ChangeSpec := { name := "brackPairs", fn := fun _ => fun
  | [d1, d2] => { results := [.lit (.bool false)], args := [d1, d2] }
  | _ => none }
def BrackPairsWrongFalsely : Prop := brackPairsRow.holds Try.pinned (OpenSpec.ofChange brackPairsWrong)

/-- 'ductuslaw10.BrackKeeps': WHATEVER THE INPUT: true; the input reads as it did. -/
def brackKeepsSpec : ChangeSpec := { name := "brackKeeps", fn := fun _ => fun
  | [d1, d2, d3] => { results := [.lit (.bool true)], args := [d1, d2, d3] }
  | _ => none }
def brackKeepsRow : OpenClaim := { program := "ytemngcdlgnconaa", sum := "b5f88bfcb5809e2d39ac568ef50fa7afa05ca89880ef94d03a965f01ad68d465", func := "ductus/ductuslaw10.BrackKeeps", spec := "brackKeeps", unfollowed := true, recurses := true, apart := false }
def BrackKeepsSaid : Prop := brackKeepsRow.holds Try.pinned (OpenSpec.ofChange brackKeepsSpec)

/-- ITS FALSE NEIGHBOUR: 'it returns false'. Refute it at one input. -/
def brackKeepsWrong : ChangeSpec := { name := "brackKeeps", fn := fun _ => fun
  | [d1, d2, d3] => { results := [.lit (.bool false)], args := [d1, d2, d3] }
  | _ => none }
def BrackKeepsWrongFalsely : Prop := brackKeepsRow.holds Try.pinned (OpenSpec.ofChange brackKeepsWrong)

/-- 'ductuslaw10.BrackSides': WHATEVER THE INPUT: true; the input reads as it did. -/
def brackSidesSpec : ChangeSpec := { name := "brackSides", fn := fun _ => fun
  | [d1, d2] => { results := [.lit (.bool true)], args := [d1, d2] }
  | _ => none }
def brackSidesRow : OpenClaim := { program := "ytemngcdlgnconaa", sum := "b5f88bfcb5809e2d39ac568ef50fa7afa05ca89880ef94d03a965f01ad68d465", func := "ductus/ductuslaw10.BrackSides", spec := "brackSides", unfollowed := true, recurses := true, apart := false }
def BrackSidesSaid : Prop := brackSidesRow.holds Try.pinned (OpenSpec.ofChange brackSidesSpec)

/-- ITS FALSE NEIGHBOUR: 'it returns false'. Refute it at one input. -/
def brackSidesWrong : ChangeSpec := { name := "brackSides", fn := fun _ => fun
  | [d1, d2] => { results := [.lit (.bool false)], args := [d1, d2] }
  | _ => none }
def BrackSidesWrongFalsely : Prop := brackSidesRow.holds Try.pinned (OpenSpec.ofChange brackSidesWrong)

/- THE SECOND FORM. 'bulk': how many values and letters a reading holds, each counted each time it is reached (what is shared counts as often as it is met; a slice's spare places count too). A statement '..UptoSaid' is the law's where the arguments, and the package variables that the reading takes, are together of bulk at most 1048576: NARROWER than '..Said'. Prove '..Said' where nothing that the law and all that it calls make is longer than what came in: it says more and counts as full. Else prove '..UptoSaid'. A law counts once. -/
mutual
def uptoBulk {H : Type} : DataW H → Nat
  | .lit (.string bytes) => bytes.length + 1
  | .lit _ => 1
  | .nil => 1
  | .ptr d => uptoBulk d + 1
  | .slice elems spare => uptoBulkAll elems + uptoBulkAll spare + 1
  | .agg parts => uptoBulkAll parts + 1
  | .iface _ d => uptoBulk d + 1
  | .map entries => uptoBulkEntries entries + 1
  | .held _ => 1
def uptoBulkAll {H : Type} : List (DataW H) → Nat
  | [] => 0
  | d :: r => uptoBulk d + uptoBulkAll r
def uptoBulkEntries {H : Type} : List (Lit × DataW H) → Nat
  | [] => 0
  | x :: r => uptoBulkEntry x + uptoBulkEntries r
def uptoBulkEntry {H : Type} : Lit × DataW H → Nat
  | (.string bytes, d) => bytes.length + uptoBulk d + 1
  | (_, d) => uptoBulk d + 1
 end
def uptoSmall : (H : Type) → List (DataW H) → Bool := fun _ ds => decide (uptoBulkAll ds ≤ 1048576)
def OpenSpec.upto (s : _root_.Go.ChangeSpec) : _root_.Go.OpenSpec := { _root_.Go.OpenSpec.ofChange s with cond := some uptoSmall }

/-- 'ductuslaw15.TokenQuotes', WHERE WHAT IT READS IS OF BULK AT MOST 1048576: true; the input reads as it did. -/
def tokenQuotesUptoRow : OpenClaim := { program := "ytemngcdlgnconaa", sum := "b5f88bfcb5809e2d39ac568ef50fa7afa05ca89880ef94d03a965f01ad68d465", func := "ductus/ductuslaw15.TokenQuotes", spec := "tokenQuotes", inPlace := ["internal/bytealg.IndexByteString"], unfollowed := true, recurses := true, apart := false, narrowed := true }
def TokenQuotesUptoSaid : Prop := tokenQuotesUptoRow.holds Try.pinned (OpenSpec.upto tokenQuotesSpec)

/-- 'ductuslaw15.TokenPlaces', WHERE WHAT IT READS IS OF BULK AT MOST 1048576: true; the input reads as it did. -/
def tokenPlacesUptoRow : OpenClaim := { program := "ytemngcdlgnconaa", sum := "b5f88bfcb5809e2d39ac568ef50fa7afa05ca89880ef94d03a965f01ad68d465", func := "ductus/ductuslaw15.TokenPlaces", spec := "tokenPlaces", inPlace := ["internal/bytealg.IndexByteString"], unfollowed := true, recurses := true, apart := false, narrowed := true }
def TokenPlacesUptoSaid : Prop := tokenPlacesUptoRow.holds Try.pinned (OpenSpec.upto tokenPlacesSpec)

/-- 'ductuslaw15.TokenJoins', WHERE WHAT IT READS IS OF BULK AT MOST 1048576: true; the input reads as it did. -/
def tokenJoinsUptoRow : OpenClaim := { program := "ytemngcdlgnconaa", sum := "b5f88bfcb5809e2d39ac568ef50fa7afa05ca89880ef94d03a965f01ad68d465", func := "ductus/ductuslaw15.TokenJoins", spec := "tokenJoins", inPlace := ["internal/bytealg.IndexByteString"], unfollowed := true, recurses := true, apart := false, narrowed := true }
def TokenJoinsUptoSaid : Prop := tokenJoinsUptoRow.holds Try.pinned (OpenSpec.upto tokenJoinsSpec)

/-- 'ductuslaw15.TokenEscapes', WHERE WHAT IT READS IS OF BULK AT MOST 1048576: true; the input reads as it did. -/
def tokenEscapesUptoRow : OpenClaim := { program := "ytemngcdlgnconaa", sum := "b5f88bfcb5809e2d39ac568ef50fa7afa05ca89880ef94d03a965f01ad68d465", func := "ductus/ductuslaw15.TokenEscapes", spec := "tokenEscapes", inPlace := ["internal/bytealg.IndexByteString"], unfollowed := true, recurses := true, apart := false, narrowed := true }
def TokenEscapesUptoSaid : Prop := tokenEscapesUptoRow.holds Try.pinned (OpenSpec.upto tokenEscapesSpec)

/-- 'ductuslaw04.FoldAnswers', WHERE WHAT IT READS IS OF BULK AT MOST 1048576: true; the input reads as it did. -/
def foldAnswersUptoRow : OpenClaim := { program := "ytemngcdlgnconaa", sum := "b5f88bfcb5809e2d39ac568ef50fa7afa05ca89880ef94d03a965f01ad68d465", func := "ductus/ductuslaw04.FoldAnswers", spec := "foldAnswers", unfollowed := true, recurses := true, apart := false, narrowed := true }
def FoldAnswersUptoSaid : Prop := foldAnswersUptoRow.holds Try.pinned (OpenSpec.upto foldAnswersSpec)

/-- 'ductuslaw04.FoldKin', WHERE WHAT IT READS IS OF BULK AT MOST 1048576: true; the input reads as it did. -/
def foldKinUptoRow : OpenClaim := { program := "ytemngcdlgnconaa", sum := "b5f88bfcb5809e2d39ac568ef50fa7afa05ca89880ef94d03a965f01ad68d465", func := "ductus/ductuslaw04.FoldKin", spec := "foldKin", unfollowed := true, recurses := true, apart := false, narrowed := true }
def FoldKinUptoSaid : Prop := foldKinUptoRow.holds Try.pinned (OpenSpec.upto foldKinSpec)

/-- 'ductuslaw04.FoldSames', WHERE WHAT IT READS IS OF BULK AT MOST 1048576: true; the input reads as it did. -/
def foldSamesUptoRow : OpenClaim := { program := "ytemngcdlgnconaa", sum := "b5f88bfcb5809e2d39ac568ef50fa7afa05ca89880ef94d03a965f01ad68d465", func := "ductus/ductuslaw04.FoldSames", spec := "foldSames", unfollowed := true, recurses := true, apart := false, narrowed := true }
def FoldSamesUptoSaid : Prop := foldSamesUptoRow.holds Try.pinned (OpenSpec.upto foldSamesSpec)

/-- 'ductuslaw10.BrackAnswers', WHERE WHAT IT READS IS OF BULK AT MOST 1048576: true; the input reads as it did. -/
def brackAnswersUptoRow : OpenClaim := { program := "ytemngcdlgnconaa", sum := "b5f88bfcb5809e2d39ac568ef50fa7afa05ca89880ef94d03a965f01ad68d465", func := "ductus/ductuslaw10.BrackAnswers", spec := "brackAnswers", unfollowed := true, recurses := true, apart := false, narrowed := true }
def BrackAnswersUptoSaid : Prop := brackAnswersUptoRow.holds Try.pinned (OpenSpec.upto brackAnswersSpec)

/-- 'ductuslaw10.BrackTurns', WHERE WHAT IT READS IS OF BULK AT MOST 1048576: true; the input reads as it did. -/
def brackTurnsUptoRow : OpenClaim := { program := "ytemngcdlgnconaa", sum := "b5f88bfcb5809e2d39ac568ef50fa7afa05ca89880ef94d03a965f01ad68d465", func := "ductus/ductuslaw10.BrackTurns", spec := "brackTurns", unfollowed := true, recurses := true, apart := false, narrowed := true }
def BrackTurnsUptoSaid : Prop := brackTurnsUptoRow.holds Try.pinned (OpenSpec.upto brackTurnsSpec)

/-- 'ductuslaw10.BrackPairs', WHERE WHAT IT READS IS OF BULK AT MOST 1048576: true; the input reads as it did. -/
def brackPairsUptoRow : OpenClaim := { program := "ytemngcdlgnconaa", sum := "b5f88bfcb5809e2d39ac568ef50fa7afa05ca89880ef94d03a965f01ad68d465", func := "ductus/ductuslaw10.BrackPairs", spec := "brackPairs", unfollowed := true, recurses := true, apart := false, narrowed := true }
def BrackPairsUptoSaid : Prop := brackPairsUptoRow.holds Try.pinned (OpenSpec.upto brackPairsSpec)

/-- 'ductuslaw10.BrackKeeps', WHERE WHAT IT READS IS OF BULK AT MOST 1048576: true; the input reads as it did. -/
def brackKeepsUptoRow : OpenClaim := { program := "ytemngcdlgnconaa", sum := "b5f88bfcb5809e2d39ac568ef50fa7afa05ca89880ef94d03a965f01ad68d465", func := "ductus/ductuslaw10.BrackKeeps", spec := "brackKeeps", unfollowed := true, recurses := true, apart := false, narrowed := true }
def BrackKeepsUptoSaid : Prop := brackKeepsUptoRow.holds Try.pinned (OpenSpec.upto brackKeepsSpec)

/-- 'ductuslaw10.BrackSides', WHERE WHAT IT READS IS OF BULK AT MOST 1048576: true; the input reads as it did. -/
def brackSidesUptoRow : OpenClaim := { program := "ytemngcdlgnconaa", sum := "b5f88bfcb5809e2d39ac568ef50fa7afa05ca89880ef94d03a965f01ad68d465", func := "ductus/ductuslaw10.BrackSides", spec := "brackSides", unfollowed := true, recurses := true, apart := false, narrowed := true }
def BrackSidesUptoSaid : Prop := brackSidesUptoRow.holds Try.pinned (OpenSpec.upto brackSidesSpec)

end Rows
end Go.Proofs.Ytemngcdlgnconaa
