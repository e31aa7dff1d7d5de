/-
  NARROWER THAN 'FOR EVERY INPUT', by the rows' own cells (each row's printed sentence says how): LevelPlain: laid · LevelMosts: laid.
  DERIVED. THE GIVEN ROWS OF THIS SEAT. 2 by the template 'for every input the law returns true; each argument reads behind the call as it read before'; 0 by the template 'total and deterministic' (their statements: YtlppdabhaipbkaaDoorTotals.lean).
  GIVEN WITH THE SEED: the statements are not yours to turn. If you find one false, say at which input.
  Laid BY PROGRAM, IN A SANDBOX (cutbox-rows.mjs): the forced cells as the released guide's own fill.sh prints them over the translation b93527bf456f6b77… (all of the seat's roots in one cut). By AI agents, Wed Nov 11 2026. No macro, syntax, notation, axiom, sorry.
-/
import Derived.Test.YtlppdabhaipbkaaDoorChecked
import GoSem.Claim
import GoSem.ClaimJoined
import GoSem.ClaimMapViews
import Derived.JoinedTies
import Derived.KernelRfl
namespace Go.Proofs.YtlppdabhaipbkaaDoor
/- THE CELL 'sum', in the pinned program and in every row, IS THE sha256 OF THE DUMP (.gsa) THAT YtlppdabhaipbkaaDoorProg.lean LOADS. Nothing in Lean hashes anything: it is a label: what it is worth is what the hold of that sum in a sandbox is worth. -/
noncomputable def Tryd.pinned : Pinned := { name := "ytlppdabhaipbkaadoor", sum := "b93527bf456f6b774facc97f9903f4a0cfe1983d6de426b85ca311bed49f4b29", checked := Tryd.checked }
namespace Rows
def none {H : Type} : Left H := { results := [], args := [] }

/- WHAT THE LISTED PACKAGE-LEVEL VARIABLES READ AS WHEN THE CALL BEGINS. Each datum BY PROGRAM (the guide's laid-datum.mjs) off the statement by which the dump's own 'gosem.cut.vars' lays the variable. In a bare row this is a premise. The card (YtlppdabhaipbkaaDoorCards.lean) ties it to the program's text. -/
def laid_ductus_class_words {H : Type} : DataW H := .agg [.lit (.string [76]), .lit (.string [82]), .lit (.string [65, 76]), .lit (.string [69, 78]), .lit (.string [69, 83]), .lit (.string [69, 84]), .lit (.string [65, 78]), .lit (.string [67, 83]), .lit (.string [78, 83, 77]), .lit (.string [66, 78]), .lit (.string [66]), .lit (.string [83]), .lit (.string [87, 83]), .lit (.string [79, 78]), .lit (.string [76, 82, 69]), .lit (.string [76, 82, 79]), .lit (.string [82, 76, 69]), .lit (.string [82, 76, 79]), .lit (.string [80, 68, 70]), .lit (.string [76, 82, 73]), .lit (.string [82, 76, 73]), .lit (.string [70, 83, 73]), .lit (.string [80, 68, 73])]

/-- 'ductuslaw12.LevelPlain': WHATEVER THE INPUT: true; the input reads as it did. -/
def levelPlainSpec : ChangeSpec := { name := "levelPlain", fn := fun _ => fun
  | [d1, d2, d3] => { results := [.lit (.bool true)], args := [d1, d2, d3] }
  | _ => none }
def levelPlainRow : OpenClaim := { program := "ytlppdabhaipbkaadoor", sum := "b93527bf456f6b774facc97f9903f4a0cfe1983d6de426b85ca311bed49f4b29", func := "ductus/ductuslaw12.LevelPlain", spec := "levelPlain", unfollowed := true, recurses := true, named := ["ductus/class.words"], apart := false, laid := [("ductus/class.words", laid_ductus_class_words)] }
def LevelPlainSaid : Prop := levelPlainRow.holds Tryd.pinned (OpenSpec.ofChange levelPlainSpec)

/-- ITS FALSE NEIGHBOUR: 'it returns false'. Refute it at one input. -/
def levelPlainWrong : ChangeSpec := { name := "levelPlain", fn := fun _ => fun
  | [d1, d2, d3] => { results := [.lit (.bool false)], args := [d1, d2, d3] }
  | _ => none }
def LevelPlainWrongFalsely : Prop := levelPlainRow.holds Tryd.pinned (OpenSpec.ofChange levelPlainWrong)

/-- 'ductuslaw12.LevelMosts': WHATEVER THE INPUT: true; the input reads as it did. -/
def levelMostsSpec : ChangeSpec := { name := "levelMosts", fn := fun _ => fun
  | [d1, d2, d3] => { results := [.lit (.bool true)], args := [d1, d2, d3] }
  | _ => none }
def levelMostsRow : OpenClaim := { program := "ytlppdabhaipbkaadoor", sum := "b93527bf456f6b774facc97f9903f4a0cfe1983d6de426b85ca311bed49f4b29", func := "ductus/ductuslaw12.LevelMosts", spec := "levelMosts", unfollowed := true, recurses := true, named := ["ductus/class.words"], apart := false, laid := [("ductus/class.words", laid_ductus_class_words)] }
def LevelMostsSaid : Prop := levelMostsRow.holds Tryd.pinned (OpenSpec.ofChange levelMostsSpec)

/-- ITS FALSE NEIGHBOUR: 'it returns false'. Refute it at one input. -/
def levelMostsWrong : ChangeSpec := { name := "levelMosts", fn := fun _ => fun
  | [d1, d2, d3] => { results := [.lit (.bool false)], args := [d1, d2, d3] }
  | _ => none }
def LevelMostsWrongFalsely : Prop := levelMostsRow.holds Tryd.pinned (OpenSpec.ofChange levelMostsWrong)

/- THE SECOND FORM. 'bulk': how many values and letters a reading holds, each counted each time it is reached (what is shared counts as often as it is met; a slice's spare places count too). A statement '..UptoSaid' is the law's where the arguments, and the package variables that the reading takes, are together of bulk at most 1048576: NARROWER than '..Said'. Prove '..Said' where nothing that the law and all that it calls make is longer than what came in: it says more and counts as full. Else prove '..UptoSaid'. A law counts once. -/
mutual
def uptoBulk {H : Type} : DataW H → Nat
  | .lit (.string bytes) => bytes.length + 1
  | .lit _ => 1
  | .nil => 1
  | .ptr d => uptoBulk d + 1
  | .slice elems spare => uptoBulkAll elems + uptoBulkAll spare + 1
  | .agg parts => uptoBulkAll parts + 1
  | .iface _ d => uptoBulk d + 1
  | .map entries => uptoBulkEntries entries + 1
  | .held _ => 1
def uptoBulkAll {H : Type} : List (DataW H) → Nat
  | [] => 0
  | d :: r => uptoBulk d + uptoBulkAll r
def uptoBulkEntries {H : Type} : List (Lit × DataW H) → Nat
  | [] => 0
  | x :: r => uptoBulkEntry x + uptoBulkEntries r
def uptoBulkEntry {H : Type} : Lit × DataW H → Nat
  | (.string bytes, d) => bytes.length + uptoBulk d + 1
  | (_, d) => uptoBulk d + 1
 end
def uptoSmall : (H : Type) → List (DataW H) → Bool := fun _ ds => decide (uptoBulkAll ds ≤ 1048576)
def OpenSpec.upto (s : _root_.Go.ChangeSpec) : _root_.Go.OpenSpec := { _root_.Go.OpenSpec.ofChange s with cond := some uptoSmall }

/-- 'ductuslaw12.LevelPlain', WHERE WHAT IT READS IS OF BULK AT MOST 1048576: true; the input reads as it did. -/
def levelPlainUptoRow : OpenClaim := { program := "ytlppdabhaipbkaadoor", sum := "b93527bf456f6b774facc97f9903f4a0cfe1983d6de426b85ca311bed49f4b29", func := "ductus/ductuslaw12.LevelPlain", spec := "levelPlain", unfollowed := true, recurses := true, named := ["ductus/class.words"], apart := false, laid := [("ductus/class.words", laid_ductus_class_words)], narrowed := true }
def LevelPlainUptoSaid : Prop := levelPlainUptoRow.holds Tryd.pinned (OpenSpec.upto levelPlainSpec)

/-- 'ductuslaw12.LevelMosts', WHERE WHAT IT READS IS OF BULK AT MOST 1048576: true; the input reads as it did. -/
def levelMostsUptoRow : OpenClaim := { program := "ytlppdabhaipbkaadoor", sum := "b93527bf456f6b774facc97f9903f4a0cfe1983d6de426b85ca311bed49f4b29", func := "ductus/ductuslaw12.LevelMosts", spec := "levelMosts", unfollowed := true, recurses := true, named := ["ductus/class.words"], apart := false, laid := [("ductus/class.words", laid_ductus_class_words)], narrowed := true }
def LevelMostsUptoSaid : Prop := levelMostsUptoRow.holds Tryd.pinned (OpenSpec.upto levelMostsSpec)

end Rows
end Go.Proofs.YtlppdabhaipbkaaDoor
