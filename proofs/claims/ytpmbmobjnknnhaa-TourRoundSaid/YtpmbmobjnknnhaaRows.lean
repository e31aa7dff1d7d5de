/-
  No cell of these rows narrows 'for every input' (looked for: loops, veiled, ifaces, maps, wideKeys, modest, calm, conditions, laid).
  DERIVED. THE GIVEN ROWS OF THIS SEAT. 3 by the template 'for every input the law returns true; each argument reads behind the call as it read before'; 0 by the template 'total and deterministic' (their statements: YtpmbmobjnknnhaaTotals.lean).
  GIVEN WITH THE SEED: the statements are not yours to turn. If you find one false, say at which input.
  Laid BY PROGRAM, IN A SANDBOX (cutbox-rows.mjs): the forced cells as the released guide's own fill.sh prints them over the translation 1a95a03081e8f5dd… (all of the seat's roots in one cut). By AI agents, Wed Nov 11 2026. No macro, syntax, notation, axiom, sorry.
-/
import Derived.Test.YtpmbmobjnknnhaaChecked
import GoSem.Claim
import GoSem.ClaimJoined
import GoSem.ClaimMapViews
import Derived.JoinedTies
import Derived.KernelRfl
namespace Go.Proofs.Ytpmbmobjnknnhaa
/- THE CELL 'sum', in the pinned program and in every row, IS THE sha256 OF THE DUMP (.gsa) THAT YtpmbmobjnknnhaaProg.lean LOADS. Nothing in Lean hashes anything: it is a label: what it is worth is what the hold of that sum in a sandbox is worth. -/
noncomputable def Try.pinned : Pinned := { name := "ytpmbmobjnknnhaa", sum := "1a95a03081e8f5dd21570f93c1f540f21546564f945597e2d832ff818ad0ce5c", checked := Try.checked }
namespace Rows
def none {H : Type} : Left H := { results := [], args := [] }

/-- 'ductuslaw25.TourKeys': WHATEVER THE INPUT: true; the input reads as it did. -/
def tourKeysSpec : ChangeSpec := { name := "tourKeys", fn := fun _ => fun
  | [d1, d2, d3] => { results := [.lit (.bool true)], args := [d1, d2, d3] }
  | _ => none }
def tourKeysRow : OpenClaim := { program := "ytpmbmobjnknnhaa", sum := "1a95a03081e8f5dd21570f93c1f540f21546564f945597e2d832ff818ad0ce5c", func := "ductus/ductuslaw25.TourKeys", spec := "tourKeys", inPlace := ["math.archTrunc", "math.Float64bits", "math.Float64frombits"], unfollowed := true, recurses := true, apart := false }
def TourKeysSaid : Prop := tourKeysRow.holds Try.pinned (OpenSpec.ofChange tourKeysSpec)

/-- ITS FALSE NEIGHBOUR: 'it returns false'. Refute it at one input. -/
def tourKeysWrong : ChangeSpec := { name := "tourKeys", fn := fun _ => fun
  | [d1, d2, d3] => { results := [.lit (.bool false)], args := [d1, d2, d3] }
  | _ => none }
def TourKeysWrongFalsely : Prop := tourKeysRow.holds Try.pinned (OpenSpec.ofChange tourKeysWrong)

/-- 'ductuslaw25.TourRound': WHATEVER THE INPUT: true; the input reads as it did. -/
def tourRoundSpec : ChangeSpec := { name := "tourRound", fn := fun _ => fun
  | [d1, d2] => { results := [.lit (.bool true)], args := [d1, d2] }
  | _ => none }
def tourRoundRow : OpenClaim := { program := "ytpmbmobjnknnhaa", sum := "1a95a03081e8f5dd21570f93c1f540f21546564f945597e2d832ff818ad0ce5c", func := "ductus/ductuslaw25.TourRound", spec := "tourRound", inPlace := ["math.archTrunc", "math.Float64bits", "math.Float64frombits"], unfollowed := true, recurses := true, apart := false }
def TourRoundSaid : Prop := tourRoundRow.holds Try.pinned (OpenSpec.ofChange tourRoundSpec)

/-- ITS FALSE NEIGHBOUR: 'it returns false'. Refute it at one input. -/
def tourRoundWrong : ChangeSpec := { name := "tourRound", fn := fun _ => fun
  | [d1, d2] => { results := [.lit (.bool false)], args := [d1, d2] }
  | _ => none }
def TourRoundWrongFalsely : Prop := tourRoundRow.holds Try.pinned (OpenSpec.ofChange tourRoundWrong)

/-- 'ductuslaw25.TourPlaces': WHATEVER THE INPUT: true; the input reads as it did. -/
def tourPlacesSpec : ChangeSpec := { name := "tourPlaces", fn := fun _ => fun
  | [d1, d2, d3] => { results := [.lit (.bool true)], args := [d1, d2, d3] }
  | _ => none }
def tourPlacesRow : OpenClaim := { program := "ytpmbmobjnknnhaa", sum := "1a95a03081e8f5dd21570f93c1f540f21546564f945597e2d832ff818ad0ce5c", func := "ductus/ductuslaw25.TourPlaces", spec := "tourPlaces", inPlace := ["math.archTrunc", "math.Float64bits", "math.Float64frombits"], unfollowed := true, recurses := true, apart := false }
def TourPlacesSaid : Prop := tourPlacesRow.holds Try.pinned (OpenSpec.ofChange tourPlacesSpec)

/-- ITS FALSE NEIGHBOUR: 'it returns false'. Refute it at one input. -/
def tourPlacesWrong : ChangeSpec := { name := "tourPlaces", fn := fun _ => fun
  | [d1, d2, d3] => { results := [.lit (.bool false)], args := [d1, d2, d3] }
  | _ => none }
def TourPlacesWrongFalsely : Prop := tourPlacesRow.holds Try.pinned (OpenSpec.ofChange tourPlacesWrong)

/- THE SECOND FORM. 'bulk': how many values and letters a reading holds, each counted each time it is reached (what is shared counts as often as it is met; a slice's spare places count too). A statement '..UptoSaid' is the law's where the arguments, and the package variables that the reading takes, are together of bulk at most 1048576: NARROWER than '..Said'. Prove '..Said' where nothing that the law and all that it calls make is longer than what came in: it says more and counts as full. Else prove '..UptoSaid'. A law counts once. -/
mutual
def uptoBulk {H : Type} : DataW H → Nat
  | .lit (.string bytes) => bytes.length + 1
  | .lit _ => 1
  | .nil => 1
  | .ptr d => uptoBulk d + 1
  | .slice elems spare => uptoBulkAll elems + uptoBulkAll spare + 1
  | .agg parts => uptoBulkAll parts + 1
  | .iface _ d => uptoBulk d + 1
  | .map entries => uptoBulkEntries entries + 1
  | .held _ => 1
def uptoBulkAll {H : Type} : List (DataW H) → Nat
  | [] => 0
  | d :: r => uptoBulk d + uptoBulkAll r
def uptoBulkEntries {H : Type} : List (Lit × DataW H) → Nat
  | [] => 0
  | x :: r => uptoBulkEntry x + uptoBulkEntries r
def uptoBulkEntry {H : Type} : Lit × DataW H → Nat
  | (.string bytes, d) => bytes.length + uptoBulk d + 1
  | (_, d) => uptoBulk d + 1
 end
def uptoSmall : (H : Type) → List (DataW H) → Bool := fun _ ds => decide (uptoBulkAll ds ≤ 1048576)
def OpenSpec.upto (s : _root_.Go.ChangeSpec) : _root_.Go.OpenSpec := { _root_.Go.OpenSpec.ofChange s with cond := some uptoSmall }

/-- 'ductuslaw25.TourKeys', WHERE WHAT IT READS IS OF BULK AT MOST 1048576: true; the input reads as it did. -/
def tourKeysUptoRow : OpenClaim := { program := "ytpmbmobjnknnhaa", sum := "1a95a03081e8f5dd21570f93c1f540f21546564f945597e2d832ff818ad0ce5c", func := "ductus/ductuslaw25.TourKeys", spec := "tourKeys", inPlace := ["math.archTrunc", "math.Float64bits", "math.Float64frombits"], unfollowed := true, recurses := true, apart := false, narrowed := true }
def TourKeysUptoSaid : Prop := tourKeysUptoRow.holds Try.pinned (OpenSpec.upto tourKeysSpec)

/-- 'ductuslaw25.TourRound', WHERE WHAT IT READS IS OF BULK AT MOST 1048576: true; the input reads as it did. -/
def tourRoundUptoRow : OpenClaim := { program := "ytpmbmobjnknnhaa", sum := "1a95a03081e8f5dd21570f93c1f540f21546564f945597e2d832ff818ad0ce5c", func := "ductus/ductuslaw25.TourRound", spec := "tourRound", inPlace := ["math.archTrunc", "math.Float64bits", "math.Float64frombits"], unfollowed := true, recurses := true, apart := false, narrowed := true }
def TourRoundUptoSaid : Prop := tourRoundUptoRow.holds Try.pinned (OpenSpec.upto tourRoundSpec)

/-- 'ductuslaw25.TourPlaces', WHERE WHAT IT READS IS OF BULK AT MOST 1048576: true; the input reads as it did. -/
def tourPlacesUptoRow : OpenClaim := { program := "ytpmbmobjnknnhaa", sum := "1a95a03081e8f5dd21570f93c1f540f21546564f945597e2d832ff818ad0ce5c", func := "ductus/ductuslaw25.TourPlaces", spec := "tourPlaces", inPlace := ["math.archTrunc", "math.Float64bits", "math.Float64frombits"], unfollowed := true, recurses := true, apart := false, narrowed := true }
def TourPlacesUptoSaid : Prop := tourPlacesUptoRow.holds Try.pinned (OpenSpec.upto tourPlacesSpec)

end Rows
end Go.Proofs.Ytpmbmobjnknnhaa
