/-
  No cell of these rows narrows 'for every input' (looked for: loops, veiled, ifaces, maps, wideKeys, modest, calm, conditions, laid).
  DERIVED. THE GIVEN ROWS OF THIS SEAT. 11 by the template 'for every input the law returns true; each argument reads behind the call as it read before'; 0 by the template 'total and deterministic' (their statements: YtjmmbgjdfmceeaaTotals.lean).
  GIVEN WITH THE SEED: the statements are not yours to turn. If you find one false, say at which input.
  Laid BY PROGRAM, IN A SANDBOX (cutbox-rows.mjs): the forced cells as the released guide's own fill.sh prints them over the translation 666064c7afd55893… (all of the seat's roots in one cut). By AI agents, Wed Nov 11 2026. No macro, syntax, notation, axiom, sorry.
-/
import Derived.Test.YtjmmbgjdfmceeaaChecked
import GoSem.Claim
import GoSem.ClaimJoined
import GoSem.ClaimMapViews
import Derived.JoinedTies
import Derived.KernelRfl
namespace Go.Proofs.Ytjmmbgjdfmceeaa
/- THE CELL 'sum', in the pinned program and in every row, IS THE sha256 OF THE DUMP (.gsa) THAT YtjmmbgjdfmceeaaProg.lean LOADS. Nothing in Lean hashes anything: it is a label: what it is worth is what the hold of that sum in a sandbox is worth. -/
noncomputable def Try.pinned : Pinned := { name := "ytjmmbgjdfmceeaa", sum := "666064c7afd558938f718ee15bb17e74d559e5cf65c34a756f36dcc84046f885", checked := Try.checked }
namespace Rows
def none {H : Type} : Left H := { results := [], args := [] }

/-- 'ductuslaw20.SimSets': WHATEVER THE INPUT: true; the input reads as it did. -/
def simSetsSpec : ChangeSpec := { name := "simSets", fn := fun _ => fun
  | [d1, d2, d3] => { results := [.lit (.bool true)], args := [d1, d2, d3] }
  | _ => none }
def simSetsRow : OpenClaim := { program := "ytjmmbgjdfmceeaa", sum := "666064c7afd558938f718ee15bb17e74d559e5cf65c34a756f36dcc84046f885", func := "ductus/ductuslaw20.SimSets", spec := "simSets", unfollowed := true, recurses := true, apart := false }
def SimSetsSaid : Prop := simSetsRow.holds Try.pinned (OpenSpec.ofChange simSetsSpec)

/-- ITS FALSE NEIGHBOUR: 'it returns false'. Refute it at one input. -/
def simSetsWrong : ChangeSpec := { name := "simSets", fn := fun _ => fun
  | [d1, d2, d3] => { results := [.lit (.bool false)], args := [d1, d2, d3] }
  | _ => none }
def SimSetsWrongFalsely : Prop := simSetsRow.holds Try.pinned (OpenSpec.ofChange simSetsWrong)

/-- 'ductuslaw20.SimRuns': WHATEVER THE INPUT: true; the input reads as it did. -/
def simRunsSpec : ChangeSpec := { name := "simRuns", fn := fun _ => fun
  | [d1, d2, d3] => { results := [.lit (.bool true)], args := [d1, d2, d3] }
  | _ => none }
def simRunsRow : OpenClaim := { program := "ytjmmbgjdfmceeaa", sum := "666064c7afd558938f718ee15bb17e74d559e5cf65c34a756f36dcc84046f885", func := "ductus/ductuslaw20.SimRuns", spec := "simRuns", unfollowed := true, recurses := true, apart := false }
def SimRunsSaid : Prop := simRunsRow.holds Try.pinned (OpenSpec.ofChange simRunsSpec)

/-- ITS FALSE NEIGHBOUR: 'it returns false'. Refute it at one input. -/
def simRunsWrong : ChangeSpec := { name := "simRuns", fn := fun _ => fun
  | [d1, d2, d3] => { results := [.lit (.bool false)], args := [d1, d2, d3] }
  | _ => none }
def SimRunsWrongFalsely : Prop := simRunsRow.holds Try.pinned (OpenSpec.ofChange simRunsWrong)

/-- 'ductuslaw20.SimReaches': WHATEVER THE INPUT: true; the input reads as it did. -/
def simReachesSpec : ChangeSpec := { name := "simReaches", fn := fun _ => fun
  | [d1, d2, d3] => { results := [.lit (.bool true)], args := [d1, d2, d3] }
  | _ => none }
def simReachesRow : OpenClaim := { program := "ytjmmbgjdfmceeaa", sum := "666064c7afd558938f718ee15bb17e74d559e5cf65c34a756f36dcc84046f885", func := "ductus/ductuslaw20.SimReaches", spec := "simReaches", unfollowed := true, recurses := true, apart := false }
def SimReachesSaid : Prop := simReachesRow.holds Try.pinned (OpenSpec.ofChange simReachesSpec)

/-- ITS FALSE NEIGHBOUR: 'it returns false'. Refute it at one input. -/
def simReachesWrong : ChangeSpec := { name := "simReaches", fn := fun _ => fun
  | [d1, d2, d3] => { results := [.lit (.bool false)], args := [d1, d2, d3] }
  | _ => none }
def SimReachesWrongFalsely : Prop := simReachesRow.holds Try.pinned (OpenSpec.ofChange simReachesWrong)

/-- 'ductuslaw20.SimLongests': WHATEVER THE INPUT: true; the input reads as it did. -/
def simLongestsSpec : ChangeSpec := { name := "simLongests", fn := fun _ => fun
  | [d1, d2, d3] => { results := [.lit (.bool true)], args := [d1, d2, d3] }
  | _ => none }
def simLongestsRow : OpenClaim := { program := "ytjmmbgjdfmceeaa", sum := "666064c7afd558938f718ee15bb17e74d559e5cf65c34a756f36dcc84046f885", func := "ductus/ductuslaw20.SimLongests", spec := "simLongests", unfollowed := true, recurses := true, apart := false }
def SimLongestsSaid : Prop := simLongestsRow.holds Try.pinned (OpenSpec.ofChange simLongestsSpec)

/-- ITS FALSE NEIGHBOUR: 'it returns false'. Refute it at one input. -/
def simLongestsWrong : ChangeSpec := { name := "simLongests", fn := fun _ => fun
  | [d1, d2, d3] => { results := [.lit (.bool false)], args := [d1, d2, d3] }
  | _ => none }
def SimLongestsWrongFalsely : Prop := simLongestsRow.holds Try.pinned (OpenSpec.ofChange simLongestsWrong)

/-- 'ductuslaw21.DfaCaches': WHATEVER THE INPUT: true; the input reads as it did. -/
def dfaCachesSpec : ChangeSpec := { name := "dfaCaches", fn := fun _ => fun
  | [d1, d2, d3] => { results := [.lit (.bool true)], args := [d1, d2, d3] }
  | _ => none }
def dfaCachesRow : OpenClaim := { program := "ytjmmbgjdfmceeaa", sum := "666064c7afd558938f718ee15bb17e74d559e5cf65c34a756f36dcc84046f885", func := "ductus/ductuslaw21.DfaCaches", spec := "dfaCaches", unfollowed := true, recurses := true, apart := false }
def DfaCachesSaid : Prop := dfaCachesRow.holds Try.pinned (OpenSpec.ofChange dfaCachesSpec)

/-- ITS FALSE NEIGHBOUR: 'it returns false'. Refute it at one input. -/
def dfaCachesWrong : ChangeSpec := { name := "dfaCaches", fn := fun _ => fun
  | [d1, d2, d3] => { results := [.lit (.bool false)], args := [d1, d2, d3] }
  | _ => none }
def DfaCachesWrongFalsely : Prop := dfaCachesRow.holds Try.pinned (OpenSpec.ofChange dfaCachesWrong)

/-- 'ductuslaw21.DfaBounds': WHATEVER THE INPUT: true; the input reads as it did. -/
def dfaBoundsSpec : ChangeSpec := { name := "dfaBounds", fn := fun _ => fun
  | [d1, d2, d3] => { results := [.lit (.bool true)], args := [d1, d2, d3] }
  | _ => none }
def dfaBoundsRow : OpenClaim := { program := "ytjmmbgjdfmceeaa", sum := "666064c7afd558938f718ee15bb17e74d559e5cf65c34a756f36dcc84046f885", func := "ductus/ductuslaw21.DfaBounds", spec := "dfaBounds", unfollowed := true, recurses := true, apart := false }
def DfaBoundsSaid : Prop := dfaBoundsRow.holds Try.pinned (OpenSpec.ofChange dfaBoundsSpec)

/-- ITS FALSE NEIGHBOUR: 'it returns false'. Refute it at one input. -/
def dfaBoundsWrong : ChangeSpec := { name := "dfaBounds", fn := fun _ => fun
  | [d1, d2, d3] => { results := [.lit (.bool false)], args := [d1, d2, d3] }
  | _ => none }
def DfaBoundsWrongFalsely : Prop := dfaBoundsRow.holds Try.pinned (OpenSpec.ofChange dfaBoundsWrong)

/-- 'ductuslaw21.DfaNews': WHATEVER THE INPUT: true; the input reads as it did. -/
def dfaNewsSpec : ChangeSpec := { name := "dfaNews", fn := fun _ => fun
  | [d1, d2] => { results := [.lit (.bool true)], args := [d1, d2] }
  | _ => none }
def dfaNewsRow : OpenClaim := { program := "ytjmmbgjdfmceeaa", sum := "666064c7afd558938f718ee15bb17e74d559e5cf65c34a756f36dcc84046f885", func := "ductus/ductuslaw21.DfaNews", spec := "dfaNews", unfollowed := true, recurses := true, apart := false }
def DfaNewsSaid : Prop := dfaNewsRow.holds Try.pinned (OpenSpec.ofChange dfaNewsSpec)

/-- ITS FALSE NEIGHBOUR: 'it returns false'. Refute it at one input. -/
def dfaNewsWrong : ChangeSpec := { name := "dfaNews", fn := fun _ => fun
  | [d1, d2] => { results := [.lit (.bool false)], args := [d1, d2] }
  | _ => none }
def DfaNewsWrongFalsely : Prop := dfaNewsRow.holds Try.pinned (OpenSpec.ofChange dfaNewsWrong)

/-- 'ductuslaw22.ScanAnswers': WHATEVER THE INPUT: true; the input reads as it did. -/
def scanAnswersSpec : ChangeSpec := { name := "scanAnswers", fn := fun _ => fun
  | [d1, d2, d3] => { results := [.lit (.bool true)], args := [d1, d2, d3] }
  | _ => none }
def scanAnswersRow : OpenClaim := { program := "ytjmmbgjdfmceeaa", sum := "666064c7afd558938f718ee15bb17e74d559e5cf65c34a756f36dcc84046f885", func := "ductus/ductuslaw22.ScanAnswers", spec := "scanAnswers", unfollowed := true, recurses := true, apart := false }
def ScanAnswersSaid : Prop := scanAnswersRow.holds Try.pinned (OpenSpec.ofChange scanAnswersSpec)

/-- ITS FALSE NEIGHBOUR: 'it returns false'. Refute it at one input. -/
def scanAnswersWrong : ChangeSpec := { name := "scanAnswers", fn := fun _ => fun
  | [d1, d2, d3] => { results := [.lit (.bool false)], args := [d1, d2, d3] }
  | _ => none }
def ScanAnswersWrongFalsely : Prop := scanAnswersRow.holds Try.pinned (OpenSpec.ofChange scanAnswersWrong)

/-- 'ductuslaw22.ScanCaches': WHATEVER THE INPUT: true; the input reads as it did. -/
def scanCachesSpec : ChangeSpec := { name := "scanCaches", fn := fun _ => fun
  | [d1, d2, d3] => { results := [.lit (.bool true)], args := [d1, d2, d3] }
  | _ => none }
def scanCachesRow : OpenClaim := { program := "ytjmmbgjdfmceeaa", sum := "666064c7afd558938f718ee15bb17e74d559e5cf65c34a756f36dcc84046f885", func := "ductus/ductuslaw22.ScanCaches", spec := "scanCaches", unfollowed := true, recurses := true, apart := false }
def ScanCachesSaid : Prop := scanCachesRow.holds Try.pinned (OpenSpec.ofChange scanCachesSpec)

/-- ITS FALSE NEIGHBOUR: 'it returns false'. Refute it at one input. -/
def scanCachesWrong : ChangeSpec := { name := "scanCaches", fn := fun _ => fun
  | [d1, d2, d3] => { results := [.lit (.bool false)], args := [d1, d2, d3] }
  | _ => none }
def ScanCachesWrongFalsely : Prop := scanCachesRow.holds Try.pinned (OpenSpec.ofChange scanCachesWrong)

/-- 'ductuslaw22.ScanCovers': WHATEVER THE INPUT: true; the input reads as it did. -/
def scanCoversSpec : ChangeSpec := { name := "scanCovers", fn := fun _ => fun
  | [d1, d2, d3] => { results := [.lit (.bool true)], args := [d1, d2, d3] }
  | _ => none }
def scanCoversRow : OpenClaim := { program := "ytjmmbgjdfmceeaa", sum := "666064c7afd558938f718ee15bb17e74d559e5cf65c34a756f36dcc84046f885", func := "ductus/ductuslaw22.ScanCovers", spec := "scanCovers", unfollowed := true, recurses := true, apart := false }
def ScanCoversSaid : Prop := scanCoversRow.holds Try.pinned (OpenSpec.ofChange scanCoversSpec)

/-- ITS FALSE NEIGHBOUR: 'it returns false'. Refute it at one input. -/
def scanCoversWrong : ChangeSpec := { name := "scanCovers", fn := fun _ => fun
  | [d1, d2, d3] => { results := [.lit (.bool false)], args := [d1, d2, d3] }
  | _ => none }
def ScanCoversWrongFalsely : Prop := scanCoversRow.holds Try.pinned (OpenSpec.ofChange scanCoversWrong)

/-- 'ductuslaw22.ScanFirsts': WHATEVER THE INPUT: true; the input reads as it did. -/
def scanFirstsSpec : ChangeSpec := { name := "scanFirsts", fn := fun _ => fun
  | [d1, d2, d3] => { results := [.lit (.bool true)], args := [d1, d2, d3] }
  | _ => none }
def scanFirstsRow : OpenClaim := { program := "ytjmmbgjdfmceeaa", sum := "666064c7afd558938f718ee15bb17e74d559e5cf65c34a756f36dcc84046f885", func := "ductus/ductuslaw22.ScanFirsts", spec := "scanFirsts", unfollowed := true, recurses := true, apart := false }
def ScanFirstsSaid : Prop := scanFirstsRow.holds Try.pinned (OpenSpec.ofChange scanFirstsSpec)

/-- ITS FALSE NEIGHBOUR: 'it returns false'. Refute it at one input. -/
def scanFirstsWrong : ChangeSpec := { name := "scanFirsts", fn := fun _ => fun
  | [d1, d2, d3] => { results := [.lit (.bool false)], args := [d1, d2, d3] }
  | _ => none }
def ScanFirstsWrongFalsely : Prop := scanFirstsRow.holds Try.pinned (OpenSpec.ofChange scanFirstsWrong)

/- THE SECOND FORM. 'bulk': how many values and letters a reading holds, each counted each time it is reached (what is shared counts as often as it is met; a slice's spare places count too). A statement '..UptoSaid' is the law's where the arguments, and the package variables that the reading takes, are together of bulk at most 1048576: NARROWER than '..Said'. Prove '..Said' where nothing that the law and all that it calls make is longer than what came in: it says more and counts as full. Else prove '..UptoSaid'. A law counts once. -/
mutual
def uptoBulk {H : Type} : DataW H → Nat
  | .lit (.string bytes) => bytes.length + 1
  | .lit _ => 1
  | .nil => 1
  | .ptr d => uptoBulk d + 1
  | .slice elems spare => uptoBulkAll elems + uptoBulkAll spare + 1
  | .agg parts => uptoBulkAll parts + 1
  | .iface _ d => uptoBulk d + 1
  | .map entries => uptoBulkEntries entries + 1
  | .held _ => 1
def uptoBulkAll {H : Type} : List (DataW H) → Nat
  | [] => 0
  | d :: r => uptoBulk d + uptoBulkAll r
def uptoBulkEntries {H : Type} : List (Lit × DataW H) → Nat
  | [] => 0
  | x :: r => uptoBulkEntry x + uptoBulkEntries r
def uptoBulkEntry {H : Type} : Lit × DataW H → Nat
  | (.string bytes, d) => bytes.length + uptoBulk d + 1
  | (_, d) => uptoBulk d + 1
 end
def uptoSmall : (H : Type) → List (DataW H) → Bool := fun _ ds => decide (uptoBulkAll ds ≤ 1048576)
def OpenSpec.upto (s : _root_.Go.ChangeSpec) : _root_.Go.OpenSpec := { _root_.Go.OpenSpec.ofChange s with cond := some uptoSmall }

/-- 'ductuslaw20.SimSets', WHERE WHAT IT READS IS OF BULK AT MOST 1048576: true; the input reads as it did. -/
def simSetsUptoRow : OpenClaim := { program := "ytjmmbgjdfmceeaa", sum := "666064c7afd558938f718ee15bb17e74d559e5cf65c34a756f36dcc84046f885", func := "ductus/ductuslaw20.SimSets", spec := "simSets", unfollowed := true, recurses := true, apart := false, narrowed := true }
def SimSetsUptoSaid : Prop := simSetsUptoRow.holds Try.pinned (OpenSpec.upto simSetsSpec)

/-- 'ductuslaw20.SimRuns', WHERE WHAT IT READS IS OF BULK AT MOST 1048576: true; the input reads as it did. -/
def simRunsUptoRow : OpenClaim := { program := "ytjmmbgjdfmceeaa", sum := "666064c7afd558938f718ee15bb17e74d559e5cf65c34a756f36dcc84046f885", func := "ductus/ductuslaw20.SimRuns", spec := "simRuns", unfollowed := true, recurses := true, apart := false, narrowed := true }
def SimRunsUptoSaid : Prop := simRunsUptoRow.holds Try.pinned (OpenSpec.upto simRunsSpec)

/-- 'ductuslaw20.SimReaches', WHERE WHAT IT READS IS OF BULK AT MOST 1048576: true; the input reads as it did. -/
def simReachesUptoRow : OpenClaim := { program := "ytjmmbgjdfmceeaa", sum := "666064c7afd558938f718ee15bb17e74d559e5cf65c34a756f36dcc84046f885", func := "ductus/ductuslaw20.SimReaches", spec := "simReaches", unfollowed := true, recurses := true, apart := false, narrowed := true }
def SimReachesUptoSaid : Prop := simReachesUptoRow.holds Try.pinned (OpenSpec.upto simReachesSpec)

/-- 'ductuslaw20.SimLongests', WHERE WHAT IT READS IS OF BULK AT MOST 1048576: true; the input reads as it did. -/
def simLongestsUptoRow : OpenClaim := { program := "ytjmmbgjdfmceeaa", sum := "666064c7afd558938f718ee15bb17e74d559e5cf65c34a756f36dcc84046f885", func := "ductus/ductuslaw20.SimLongests", spec := "simLongests", unfollowed := true, recurses := true, apart := false, narrowed := true }
def SimLongestsUptoSaid : Prop := simLongestsUptoRow.holds Try.pinned (OpenSpec.upto simLongestsSpec)

/-- 'ductuslaw21.DfaCaches', WHERE WHAT IT READS IS OF BULK AT MOST 1048576: true; the input reads as it did. -/
def dfaCachesUptoRow : OpenClaim := { program := "ytjmmbgjdfmceeaa", sum := "666064c7afd558938f718ee15bb17e74d559e5cf65c34a756f36dcc84046f885", func := "ductus/ductuslaw21.DfaCaches", spec := "dfaCaches", unfollowed := true, recurses := true, apart := false, narrowed := true }
def DfaCachesUptoSaid : Prop := dfaCachesUptoRow.holds Try.pinned (OpenSpec.upto dfaCachesSpec)

/-- 'ductuslaw21.DfaBounds', WHERE WHAT IT READS IS OF BULK AT MOST 1048576: true; the input reads as it did. -/
def dfaBoundsUptoRow : OpenClaim := { program := "ytjmmbgjdfmceeaa", sum := "666064c7afd558938f718ee15bb17e74d559e5cf65c34a756f36dcc84046f885", func := "ductus/ductuslaw21.DfaBounds", spec := "dfaBounds", unfollowed := true, recurses := true, apart := false, narrowed := true }
def DfaBoundsUptoSaid : Prop := dfaBoundsUptoRow.holds Try.pinned (OpenSpec.upto dfaBoundsSpec)

/-- 'ductuslaw21.DfaNews', WHERE WHAT IT READS IS OF BULK AT MOST 1048576: true; the input reads as it did. -/
def dfaNewsUptoRow : OpenClaim := { program := "ytjmmbgjdfmceeaa", sum := "666064c7afd558938f718ee15bb17e74d559e5cf65c34a756f36dcc84046f885", func := "ductus/ductuslaw21.DfaNews", spec := "dfaNews", unfollowed := true, recurses := true, apart := false, narrowed := true }
def DfaNewsUptoSaid : Prop := dfaNewsUptoRow.holds Try.pinned (OpenSpec.upto dfaNewsSpec)

/-- 'ductuslaw22.ScanAnswers', WHERE WHAT IT READS IS OF BULK AT MOST 1048576: true; the input reads as it did. -/
def scanAnswersUptoRow : OpenClaim := { program := "ytjmmbgjdfmceeaa", sum := "666064c7afd558938f718ee15bb17e74d559e5cf65c34a756f36dcc84046f885", func := "ductus/ductuslaw22.ScanAnswers", spec := "scanAnswers", unfollowed := true, recurses := true, apart := false, narrowed := true }
def ScanAnswersUptoSaid : Prop := scanAnswersUptoRow.holds Try.pinned (OpenSpec.upto scanAnswersSpec)

/-- 'ductuslaw22.ScanCaches', WHERE WHAT IT READS IS OF BULK AT MOST 1048576: true; the input reads as it did. -/
def scanCachesUptoRow : OpenClaim := { program := "ytjmmbgjdfmceeaa", sum := "666064c7afd558938f718ee15bb17e74d559e5cf65c34a756f36dcc84046f885", func := "ductus/ductuslaw22.ScanCaches", spec := "scanCaches", unfollowed := true, recurses := true, apart := false, narrowed := true }
def ScanCachesUptoSaid : Prop := scanCachesUptoRow.holds Try.pinned (OpenSpec.upto scanCachesSpec)

/-- 'ductuslaw22.ScanCovers', WHERE WHAT IT READS IS OF BULK AT MOST 1048576: true; the input reads as it did. -/
def scanCoversUptoRow : OpenClaim := { program := "ytjmmbgjdfmceeaa", sum := "666064c7afd558938f718ee15bb17e74d559e5cf65c34a756f36dcc84046f885", func := "ductus/ductuslaw22.ScanCovers", spec := "scanCovers", unfollowed := true, recurses := true, apart := false, narrowed := true }
def ScanCoversUptoSaid : Prop := scanCoversUptoRow.holds Try.pinned (OpenSpec.upto scanCoversSpec)

/-- 'ductuslaw22.ScanFirsts', WHERE WHAT IT READS IS OF BULK AT MOST 1048576: true; the input reads as it did. -/
def scanFirstsUptoRow : OpenClaim := { program := "ytjmmbgjdfmceeaa", sum := "666064c7afd558938f718ee15bb17e74d559e5cf65c34a756f36dcc84046f885", func := "ductus/ductuslaw22.ScanFirsts", spec := "scanFirsts", unfollowed := true, recurses := true, apart := false, narrowed := true }
def ScanFirstsUptoSaid : Prop := scanFirstsUptoRow.holds Try.pinned (OpenSpec.upto scanFirstsSpec)

end Rows
end Go.Proofs.Ytjmmbgjdfmceeaa
