/-
  NARROWER THAN 'FOR EVERY INPUT', by the rows' own cells (each row's printed sentence says how): LevelMarks: laid · LevelAnswers: laid · LevelBounds: laid.
  DERIVED. THE GIVEN ROWS OF THIS SEAT. 3 by the template 'for every input the law returns true; each argument reads behind the call as it read before'; 0 by the template 'total and deterministic' (their statements: YtlppdabhaipbkaaGreatDoorTotals.lean).
  GIVEN WITH THE SEED: the statements are not yours to turn. If you find one false, say at which input.
  Laid BY PROGRAM, IN A SANDBOX (cutbox-rows.mjs): the forced cells as the released guide's own fill.sh prints them over the translation a825b3ee3c713817… (all of the seat's roots in one cut). By AI agents, Wed Nov 11 2026. No macro, syntax, notation, axiom, sorry.
-/
import Derived.Test.YtlppdabhaipbkaaGreatDoorChecked
import GoSem.Claim
import GoSem.ClaimJoined
import GoSem.ClaimMapViews
import Derived.JoinedTies
import Derived.KernelRfl
namespace Go.Proofs.YtlppdabhaipbkaaGreatDoor
/- THE CELL 'sum', in the pinned program and in every row, IS THE sha256 OF THE DUMP (.gsa) THAT YtlppdabhaipbkaaGreatDoorProg.lean LOADS. Nothing in Lean hashes anything: it is a label: what it is worth is what the hold of that sum in a sandbox is worth. -/
noncomputable def Tryz.pinned : Pinned := { name := "ytlppdabhaipbkaagreatdoor", sum := "a825b3ee3c7138170fe5225bb9e23d00cf14edc6e3f1b69bfbc2e71b6bf26094", checked := Tryz.checked }
namespace Rows
def none {H : Type} : Left H := { results := [], args := [] }

/- WHAT THE LISTED PACKAGE-LEVEL VARIABLES READ AS WHEN THE CALL BEGINS. Each datum BY PROGRAM (the guide's laid-datum.mjs) off the statement by which the dump's own 'gosem.cut.vars' lays the variable. In a bare row this is a premise. The card (YtlppdabhaipbkaaGreatDoorCards.lean) ties it to the program's text. -/
def laid_ductus_class_words {H : Type} : DataW H := .agg [.lit (.string [76]), .lit (.string [82]), .lit (.string [65, 76]), .lit (.string [69, 78]), .lit (.string [69, 83]), .lit (.string [69, 84]), .lit (.string [65, 78]), .lit (.string [67, 83]), .lit (.string [78, 83, 77]), .lit (.string [66, 78]), .lit (.string [66]), .lit (.string [83]), .lit (.string [87, 83]), .lit (.string [79, 78]), .lit (.string [76, 82, 69]), .lit (.string [76, 82, 79]), .lit (.string [82, 76, 69]), .lit (.string [82, 76, 79]), .lit (.string [80, 68, 70]), .lit (.string [76, 82, 73]), .lit (.string [82, 76, 73]), .lit (.string [70, 83, 73]), .lit (.string [80, 68, 73])]

/-- 'ductuslaw12.LevelMarks': WHATEVER THE INPUT: true; the input reads as it did. -/
def levelMarksSpec : ChangeSpec := { name := "levelMarks", fn := fun _ => fun
  | [d1, d2, d3] => { results := [.lit (.bool true)], args := [d1, d2, d3] }
  | _ => none }
def levelMarksRow : OpenClaim := { program := "ytlppdabhaipbkaagreatdoor", sum := "a825b3ee3c7138170fe5225bb9e23d00cf14edc6e3f1b69bfbc2e71b6bf26094", func := "ductus/ductuslaw12.LevelMarks", spec := "levelMarks", unfollowed := true, recurses := true, named := ["ductus/class.words"], apart := false, laid := [("ductus/class.words", laid_ductus_class_words)] }
def LevelMarksSaid : Prop := levelMarksRow.holds Tryz.pinned (OpenSpec.ofChange levelMarksSpec)

/-- ITS FALSE NEIGHBOUR: 'it returns false'. Refute it at one input. -/
def levelMarksWrong : ChangeSpec := { name := "levelMarks", fn := fun _ => fun
  | [d1, d2, d3] => { results := [.lit (.bool false)], args := [d1, d2, d3] }
  | _ => none }
def LevelMarksWrongFalsely : Prop := levelMarksRow.holds Tryz.pinned (OpenSpec.ofChange levelMarksWrong)

/-- 'ductuslaw12.LevelAnswers': WHATEVER THE INPUT: true; the input reads as it did. -/
def levelAnswersSpec : ChangeSpec := { name := "levelAnswers", fn := fun _ => fun
  | [d1, d2, d3] => { results := [.lit (.bool true)], args := [d1, d2, d3] }
  | _ => none }
def levelAnswersRow : OpenClaim := { program := "ytlppdabhaipbkaagreatdoor", sum := "a825b3ee3c7138170fe5225bb9e23d00cf14edc6e3f1b69bfbc2e71b6bf26094", func := "ductus/ductuslaw12.LevelAnswers", spec := "levelAnswers", unfollowed := true, recurses := true, named := ["ductus/class.words"], apart := false, laid := [("ductus/class.words", laid_ductus_class_words)] }
def LevelAnswersSaid : Prop := levelAnswersRow.holds Tryz.pinned (OpenSpec.ofChange levelAnswersSpec)

/-- ITS FALSE NEIGHBOUR: 'it returns false'. Refute it at one input. -/
def levelAnswersWrong : ChangeSpec := { name := "levelAnswers", fn := fun _ => fun
  | [d1, d2, d3] => { results := [.lit (.bool false)], args := [d1, d2, d3] }
  | _ => none }
def LevelAnswersWrongFalsely : Prop := levelAnswersRow.holds Tryz.pinned (OpenSpec.ofChange levelAnswersWrong)

/-- 'ductuslaw12.LevelBounds': WHATEVER THE INPUT: true; the input reads as it did. -/
def levelBoundsSpec : ChangeSpec := { name := "levelBounds", fn := fun _ => fun
  | [d1, d2] => { results := [.lit (.bool true)], args := [d1, d2] }
  | _ => none }
def levelBoundsRow : OpenClaim := { program := "ytlppdabhaipbkaagreatdoor", sum := "a825b3ee3c7138170fe5225bb9e23d00cf14edc6e3f1b69bfbc2e71b6bf26094", func := "ductus/ductuslaw12.LevelBounds", spec := "levelBounds", unfollowed := true, recurses := true, named := ["ductus/class.words"], apart := false, laid := [("ductus/class.words", laid_ductus_class_words)] }
def LevelBoundsSaid : Prop := levelBoundsRow.holds Tryz.pinned (OpenSpec.ofChange levelBoundsSpec)

/-- ITS FALSE NEIGHBOUR: 'it returns false'. Refute it at one input. -/
def levelBoundsWrong : ChangeSpec := { name := "levelBounds", fn := fun _ => fun
  | [d1, d2] => { results := [.lit (.bool false)], args := [d1, d2] }
  | _ => none }
def LevelBoundsWrongFalsely : Prop := levelBoundsRow.holds Tryz.pinned (OpenSpec.ofChange levelBoundsWrong)

/- THE SECOND FORM. 'bulk': how many values and letters a reading holds, each counted each time it is reached (what is shared counts as often as it is met; a slice's spare places count too). A statement '..UptoSaid' is the law's where the arguments, and the package variables that the reading takes, are together of bulk at most 1048576: NARROWER than '..Said'. Prove '..Said' where nothing that the law and all that it calls make is longer than what came in: it says more and counts as full. Else prove '..UptoSaid'. A law counts once. -/
mutual
def uptoBulk {H : Type} : DataW H → Nat
  | .lit (.string bytes) => bytes.length + 1
  | .lit _ => 1
  | .nil => 1
  | .ptr d => uptoBulk d + 1
  | .slice elems spare => uptoBulkAll elems + uptoBulkAll spare + 1
  | .agg parts => uptoBulkAll parts + 1
  | .iface _ d => uptoBulk d + 1
  | .map entries => uptoBulkEntries entries + 1
  | .held _ => 1
def uptoBulkAll {H : Type} : List (DataW H) → Nat
  | [] => 0
  | d :: r => uptoBulk d + uptoBulkAll r
def uptoBulkEntries {H : Type} : List (Lit × DataW H) → Nat
  | [] => 0
  | x :: r => uptoBulkEntry x + uptoBulkEntries r
def uptoBulkEntry {H : Type} : Lit × DataW H → Nat
  | (.string bytes, d) => bytes.length + uptoBulk d + 1
  | (_, d) => uptoBulk d + 1
 end
def uptoSmall : (H : Type) → List (DataW H) → Bool := fun _ ds => decide (uptoBulkAll ds ≤ 1048576)
def OpenSpec.upto (s : _root_.Go.ChangeSpec) : _root_.Go.OpenSpec := { _root_.Go.OpenSpec.ofChange s with cond := some uptoSmall }

/-- 'ductuslaw12.LevelMarks', WHERE WHAT IT READS IS OF BULK AT MOST 1048576: true; the input reads as it did. -/
def levelMarksUptoRow : OpenClaim := { program := "ytlppdabhaipbkaagreatdoor", sum := "a825b3ee3c7138170fe5225bb9e23d00cf14edc6e3f1b69bfbc2e71b6bf26094", func := "ductus/ductuslaw12.LevelMarks", spec := "levelMarks", unfollowed := true, recurses := true, named := ["ductus/class.words"], apart := false, laid := [("ductus/class.words", laid_ductus_class_words)], narrowed := true }
def LevelMarksUptoSaid : Prop := levelMarksUptoRow.holds Tryz.pinned (OpenSpec.upto levelMarksSpec)

/-- 'ductuslaw12.LevelAnswers', WHERE WHAT IT READS IS OF BULK AT MOST 1048576: true; the input reads as it did. -/
def levelAnswersUptoRow : OpenClaim := { program := "ytlppdabhaipbkaagreatdoor", sum := "a825b3ee3c7138170fe5225bb9e23d00cf14edc6e3f1b69bfbc2e71b6bf26094", func := "ductus/ductuslaw12.LevelAnswers", spec := "levelAnswers", unfollowed := true, recurses := true, named := ["ductus/class.words"], apart := false, laid := [("ductus/class.words", laid_ductus_class_words)], narrowed := true }
def LevelAnswersUptoSaid : Prop := levelAnswersUptoRow.holds Tryz.pinned (OpenSpec.upto levelAnswersSpec)

/-- 'ductuslaw12.LevelBounds', WHERE WHAT IT READS IS OF BULK AT MOST 1048576: true; the input reads as it did. -/
def levelBoundsUptoRow : OpenClaim := { program := "ytlppdabhaipbkaagreatdoor", sum := "a825b3ee3c7138170fe5225bb9e23d00cf14edc6e3f1b69bfbc2e71b6bf26094", func := "ductus/ductuslaw12.LevelBounds", spec := "levelBounds", unfollowed := true, recurses := true, named := ["ductus/class.words"], apart := false, laid := [("ductus/class.words", laid_ductus_class_words)], narrowed := true }
def LevelBoundsUptoSaid : Prop := levelBoundsUptoRow.holds Tryz.pinned (OpenSpec.upto levelBoundsSpec)

end Rows
end Go.Proofs.YtlppdabhaipbkaaGreatDoor
