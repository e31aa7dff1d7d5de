/-
  NARROWER THAN 'FOR EVERY INPUT', by the rows' own cells (each row's printed sentence says how): BaseAnswers: laid · BasePairs: laid · BaseSkips: laid · BaseFirsts: laid · ExplicitAnswers: laid · ExplicitBounds: laid · ExplicitIsolates: laid · ExplicitNexts: laid · ExplicitBegins: laid.
  DERIVED. THE GIVEN ROWS OF THIS SEAT. 9 by the template 'for every input the law returns true; each argument reads behind the call as it read before'; 0 by the template 'total and deterministic' (their statements: YtjmdfkcgglidaaaDoorTotals.lean).
  GIVEN WITH THE SEED: the statements are not yours to turn. If you find one false, say at which input.
  Laid BY PROGRAM, IN A SANDBOX (cutbox-rows.mjs): the forced cells as the released guide's own fill.sh prints them over the translation d817ee0baa7b5eb8… (all of the seat's roots in one cut). By AI agents, Wed Nov 11 2026. No macro, syntax, notation, axiom, sorry.
-/
import Derived.Test.YtjmdfkcgglidaaaDoorChecked
import GoSem.Claim
import GoSem.ClaimJoined
import GoSem.ClaimMapViews
import Derived.JoinedTies
import Derived.KernelRfl
namespace Go.Proofs.YtjmdfkcgglidaaaDoor
/- THE CELL 'sum', in the pinned program and in every row, IS THE sha256 OF THE DUMP (.gsa) THAT YtjmdfkcgglidaaaDoorProg.lean LOADS. Nothing in Lean hashes anything: it is a label: what it is worth is what the hold of that sum in a sandbox is worth. -/
noncomputable def Tryd.pinned : Pinned := { name := "ytjmdfkcgglidaaadoor", sum := "d817ee0baa7b5eb88e0e1a90be23cfe4e6c4228fba03d58255ecde0d8dc9285d", checked := Tryd.checked }
namespace Rows
def none {H : Type} : Left H := { results := [], args := [] }

/- WHAT THE LISTED PACKAGE-LEVEL VARIABLES READ AS WHEN THE CALL BEGINS. Each datum BY PROGRAM (the guide's laid-datum.mjs) off the statement by which the dump's own 'gosem.cut.vars' lays the variable. In a bare row this is a premise. The card (YtjmdfkcgglidaaaDoorCards.lean) ties it to the program's text. -/
def laid_ductus_class_words {H : Type} : DataW H := .agg [.lit (.string [76]), .lit (.string [82]), .lit (.string [65, 76]), .lit (.string [69, 78]), .lit (.string [69, 83]), .lit (.string [69, 84]), .lit (.string [65, 78]), .lit (.string [67, 83]), .lit (.string [78, 83, 77]), .lit (.string [66, 78]), .lit (.string [66]), .lit (.string [83]), .lit (.string [87, 83]), .lit (.string [79, 78]), .lit (.string [76, 82, 69]), .lit (.string [76, 82, 79]), .lit (.string [82, 76, 69]), .lit (.string [82, 76, 79]), .lit (.string [80, 68, 70]), .lit (.string [76, 82, 73]), .lit (.string [82, 76, 73]), .lit (.string [70, 83, 73]), .lit (.string [80, 68, 73])]

/-- 'ductuslaw05.BaseAnswers': WHATEVER THE INPUT: true; the input reads as it did. -/
def baseAnswersSpec : ChangeSpec := { name := "baseAnswers", fn := fun _ => fun
  | [d1, d2] => { results := [.lit (.bool true)], args := [d1, d2] }
  | _ => none }
def baseAnswersRow : OpenClaim := { program := "ytjmdfkcgglidaaadoor", sum := "d817ee0baa7b5eb88e0e1a90be23cfe4e6c4228fba03d58255ecde0d8dc9285d", func := "ductus/ductuslaw05.BaseAnswers", spec := "baseAnswers", named := ["ductus/class.words"], apart := false, laid := [("ductus/class.words", laid_ductus_class_words)] }
def BaseAnswersSaid : Prop := baseAnswersRow.holds Tryd.pinned (OpenSpec.ofChange baseAnswersSpec)

/-- ITS FALSE NEIGHBOUR: 'it returns false'. Refute it at one input. -/
def baseAnswersWrong : ChangeSpec := { name := "baseAnswers", fn := fun _ => fun
  | [d1, d2] => { results := [.lit (.bool false)], args := [d1, d2] }
  | _ => none }
def BaseAnswersWrongFalsely : Prop := baseAnswersRow.holds Tryd.pinned (OpenSpec.ofChange baseAnswersWrong)

/-- 'ductuslaw05.BasePairs': WHATEVER THE INPUT: true; the input reads as it did. -/
def basePairsSpec : ChangeSpec := { name := "basePairs", fn := fun _ => fun
  | [d] => { results := [.lit (.bool true)], args := [d] }
  | _ => none }
def basePairsRow : OpenClaim := { program := "ytjmdfkcgglidaaadoor", sum := "d817ee0baa7b5eb88e0e1a90be23cfe4e6c4228fba03d58255ecde0d8dc9285d", func := "ductus/ductuslaw05.BasePairs", spec := "basePairs", named := ["ductus/class.words"], apart := false, laid := [("ductus/class.words", laid_ductus_class_words)] }
def BasePairsSaid : Prop := basePairsRow.holds Tryd.pinned (OpenSpec.ofChange basePairsSpec)

/-- ITS FALSE NEIGHBOUR: 'it returns false'. Refute it at one input. -/
def basePairsWrong : ChangeSpec := { name := "basePairs", fn := fun _ => fun
  | [d] => { results := [.lit (.bool false)], args := [d] }
  | _ => none }
def BasePairsWrongFalsely : Prop := basePairsRow.holds Tryd.pinned (OpenSpec.ofChange basePairsWrong)

/-- 'ductuslaw05.BaseSkips': WHATEVER THE INPUT: true; the input reads as it did. -/
def baseSkipsSpec : ChangeSpec := { name := "baseSkips", fn := fun _ => fun
  | [d1, d2, d3] => { results := [.lit (.bool true)], args := [d1, d2, d3] }
  | _ => none }
def baseSkipsRow : OpenClaim := { program := "ytjmdfkcgglidaaadoor", sum := "d817ee0baa7b5eb88e0e1a90be23cfe4e6c4228fba03d58255ecde0d8dc9285d", func := "ductus/ductuslaw05.BaseSkips", spec := "baseSkips", named := ["ductus/class.words"], apart := false, laid := [("ductus/class.words", laid_ductus_class_words)] }
def BaseSkipsSaid : Prop := baseSkipsRow.holds Tryd.pinned (OpenSpec.ofChange baseSkipsSpec)

/-- ITS FALSE NEIGHBOUR: 'it returns false'. Refute it at one input. -/
def baseSkipsWrong : ChangeSpec := { name := "baseSkips", fn := fun _ => fun
  | [d1, d2, d3] => { results := [.lit (.bool false)], args := [d1, d2, d3] }
  | _ => none }
def BaseSkipsWrongFalsely : Prop := baseSkipsRow.holds Tryd.pinned (OpenSpec.ofChange baseSkipsWrong)

/-- 'ductuslaw05.BaseFirsts': WHATEVER THE INPUT: true; the input reads as it did. -/
def baseFirstsSpec : ChangeSpec := { name := "baseFirsts", fn := fun _ => fun
  | [d1, d2] => { results := [.lit (.bool true)], args := [d1, d2] }
  | _ => none }
def baseFirstsRow : OpenClaim := { program := "ytjmdfkcgglidaaadoor", sum := "d817ee0baa7b5eb88e0e1a90be23cfe4e6c4228fba03d58255ecde0d8dc9285d", func := "ductus/ductuslaw05.BaseFirsts", spec := "baseFirsts", named := ["ductus/class.words"], apart := false, laid := [("ductus/class.words", laid_ductus_class_words)] }
def BaseFirstsSaid : Prop := baseFirstsRow.holds Tryd.pinned (OpenSpec.ofChange baseFirstsSpec)

/-- ITS FALSE NEIGHBOUR: 'it returns false'. Refute it at one input. -/
def baseFirstsWrong : ChangeSpec := { name := "baseFirsts", fn := fun _ => fun
  | [d1, d2] => { results := [.lit (.bool false)], args := [d1, d2] }
  | _ => none }
def BaseFirstsWrongFalsely : Prop := baseFirstsRow.holds Tryd.pinned (OpenSpec.ofChange baseFirstsWrong)

/-- 'ductuslaw06.ExplicitAnswers': WHATEVER THE INPUT: true; the input reads as it did. -/
def explicitAnswersSpec : ChangeSpec := { name := "explicitAnswers", fn := fun _ => fun
  | [d1, d2] => { results := [.lit (.bool true)], args := [d1, d2] }
  | _ => none }
def explicitAnswersRow : OpenClaim := { program := "ytjmdfkcgglidaaadoor", sum := "d817ee0baa7b5eb88e0e1a90be23cfe4e6c4228fba03d58255ecde0d8dc9285d", func := "ductus/ductuslaw06.ExplicitAnswers", spec := "explicitAnswers", named := ["ductus/class.words"], apart := false, laid := [("ductus/class.words", laid_ductus_class_words)] }
def ExplicitAnswersSaid : Prop := explicitAnswersRow.holds Tryd.pinned (OpenSpec.ofChange explicitAnswersSpec)

/-- ITS FALSE NEIGHBOUR: 'it returns false'. Refute it at one input. -/
def explicitAnswersWrong : ChangeSpec := { name := "explicitAnswers", fn := fun _ => fun
  | [d1, d2] => { results := [.lit (.bool false)], args := [d1, d2] }
  | _ => none }
def ExplicitAnswersWrongFalsely : Prop := explicitAnswersRow.holds Tryd.pinned (OpenSpec.ofChange explicitAnswersWrong)

/-- 'ductuslaw06.ExplicitBounds': WHATEVER THE INPUT: true; the input reads as it did. -/
def explicitBoundsSpec : ChangeSpec := { name := "explicitBounds", fn := fun _ => fun
  | [d1, d2] => { results := [.lit (.bool true)], args := [d1, d2] }
  | _ => none }
def explicitBoundsRow : OpenClaim := { program := "ytjmdfkcgglidaaadoor", sum := "d817ee0baa7b5eb88e0e1a90be23cfe4e6c4228fba03d58255ecde0d8dc9285d", func := "ductus/ductuslaw06.ExplicitBounds", spec := "explicitBounds", named := ["ductus/class.words"], apart := false, laid := [("ductus/class.words", laid_ductus_class_words)] }
def ExplicitBoundsSaid : Prop := explicitBoundsRow.holds Tryd.pinned (OpenSpec.ofChange explicitBoundsSpec)

/-- ITS FALSE NEIGHBOUR: 'it returns false'. Refute it at one input. -/
def explicitBoundsWrong : ChangeSpec := { name := "explicitBounds", fn := fun _ => fun
  | [d1, d2] => { results := [.lit (.bool false)], args := [d1, d2] }
  | _ => none }
def ExplicitBoundsWrongFalsely : Prop := explicitBoundsRow.holds Tryd.pinned (OpenSpec.ofChange explicitBoundsWrong)

/-- 'ductuslaw06.ExplicitIsolates': WHATEVER THE INPUT: true; the input reads as it did. -/
def explicitIsolatesSpec : ChangeSpec := { name := "explicitIsolates", fn := fun _ => fun
  | [d1, d2, d3] => { results := [.lit (.bool true)], args := [d1, d2, d3] }
  | _ => none }
def explicitIsolatesRow : OpenClaim := { program := "ytjmdfkcgglidaaadoor", sum := "d817ee0baa7b5eb88e0e1a90be23cfe4e6c4228fba03d58255ecde0d8dc9285d", func := "ductus/ductuslaw06.ExplicitIsolates", spec := "explicitIsolates", named := ["ductus/class.words"], apart := false, laid := [("ductus/class.words", laid_ductus_class_words)] }
def ExplicitIsolatesSaid : Prop := explicitIsolatesRow.holds Tryd.pinned (OpenSpec.ofChange explicitIsolatesSpec)

/-- ITS FALSE NEIGHBOUR: 'it returns false'. Refute it at one input. -/
def explicitIsolatesWrong : ChangeSpec := { name := "explicitIsolates", fn := fun _ => fun
  | [d1, d2, d3] => { results := [.lit (.bool false)], args := [d1, d2, d3] }
  | _ => none }
def ExplicitIsolatesWrongFalsely : Prop := explicitIsolatesRow.holds Tryd.pinned (OpenSpec.ofChange explicitIsolatesWrong)

/-- 'ductuslaw06.ExplicitNexts': WHATEVER THE INPUT: true; the input reads as it did. -/
def explicitNextsSpec : ChangeSpec := { name := "explicitNexts", fn := fun _ => fun
  | [d1, d2] => { results := [.lit (.bool true)], args := [d1, d2] }
  | _ => none }
def explicitNextsRow : OpenClaim := { program := "ytjmdfkcgglidaaadoor", sum := "d817ee0baa7b5eb88e0e1a90be23cfe4e6c4228fba03d58255ecde0d8dc9285d", func := "ductus/ductuslaw06.ExplicitNexts", spec := "explicitNexts", named := ["ductus/class.words"], apart := false, laid := [("ductus/class.words", laid_ductus_class_words)] }
def ExplicitNextsSaid : Prop := explicitNextsRow.holds Tryd.pinned (OpenSpec.ofChange explicitNextsSpec)

/-- ITS FALSE NEIGHBOUR: 'it returns false'. Refute it at one input. -/
def explicitNextsWrong : ChangeSpec := { name := "explicitNexts", fn := fun _ => fun
  | [d1, d2] => { results := [.lit (.bool false)], args := [d1, d2] }
  | _ => none }
def ExplicitNextsWrongFalsely : Prop := explicitNextsRow.holds Tryd.pinned (OpenSpec.ofChange explicitNextsWrong)

/-- 'ductuslaw06.ExplicitBegins': WHATEVER THE INPUT: true; the input reads as it did. -/
def explicitBeginsSpec : ChangeSpec := { name := "explicitBegins", fn := fun _ => fun
  | [d1, d2, d3] => { results := [.lit (.bool true)], args := [d1, d2, d3] }
  | _ => none }
def explicitBeginsRow : OpenClaim := { program := "ytjmdfkcgglidaaadoor", sum := "d817ee0baa7b5eb88e0e1a90be23cfe4e6c4228fba03d58255ecde0d8dc9285d", func := "ductus/ductuslaw06.ExplicitBegins", spec := "explicitBegins", named := ["ductus/class.words"], apart := false, laid := [("ductus/class.words", laid_ductus_class_words)] }
def ExplicitBeginsSaid : Prop := explicitBeginsRow.holds Tryd.pinned (OpenSpec.ofChange explicitBeginsSpec)

/-- ITS FALSE NEIGHBOUR: 'it returns false'. Refute it at one input. -/
def explicitBeginsWrong : ChangeSpec := { name := "explicitBegins", fn := fun _ => fun
  | [d1, d2, d3] => { results := [.lit (.bool false)], args := [d1, d2, d3] }
  | _ => none }
def ExplicitBeginsWrongFalsely : Prop := explicitBeginsRow.holds Tryd.pinned (OpenSpec.ofChange explicitBeginsWrong)

/- THE SECOND FORM. 'bulk': how many values and letters a reading holds, each counted each time it is reached (what is shared counts as often as it is met; a slice's spare places count too). A statement '..UptoSaid' is the law's where the arguments, and the package variables that the reading takes, are together of bulk at most 1048576: NARROWER than '..Said'. Prove '..Said' where nothing that the law and all that it calls make is longer than what came in: it says more and counts as full. Else prove '..UptoSaid'. A law counts once. -/
mutual
def uptoBulk {H : Type} : DataW H → Nat
  | .lit (.string bytes) => bytes.length + 1
  | .lit _ => 1
  | .nil => 1
  | .ptr d => uptoBulk d + 1
  | .slice elems spare => uptoBulkAll elems + uptoBulkAll spare + 1
  | .agg parts => uptoBulkAll parts + 1
  | .iface _ d => uptoBulk d + 1
  | .map entries => uptoBulkEntries entries + 1
  | .held _ => 1
def uptoBulkAll {H : Type} : List (DataW H) → Nat
  | [] => 0
  | d :: r => uptoBulk d + uptoBulkAll r
def uptoBulkEntries {H : Type} : List (Lit × DataW H) → Nat
  | [] => 0
  | x :: r => uptoBulkEntry x + uptoBulkEntries r
def uptoBulkEntry {H : Type} : Lit × DataW H → Nat
  | (.string bytes, d) => bytes.length + uptoBulk d + 1
  | (_, d) => uptoBulk d + 1
 end
def uptoSmall : (H : Type) → List (DataW H) → Bool := fun _ ds => decide (uptoBulkAll ds ≤ 1048576)
def OpenSpec.upto (s : _root_.Go.ChangeSpec) : _root_.Go.OpenSpec := { _root_.Go.OpenSpec.ofChange s with cond := some uptoSmall }

/-- 'ductuslaw05.BaseAnswers', WHERE WHAT IT READS IS OF BULK AT MOST 1048576: true; the input reads as it did. -/
def baseAnswersUptoRow : OpenClaim := { program := "ytjmdfkcgglidaaadoor", sum := "d817ee0baa7b5eb88e0e1a90be23cfe4e6c4228fba03d58255ecde0d8dc9285d", func := "ductus/ductuslaw05.BaseAnswers", spec := "baseAnswers", named := ["ductus/class.words"], apart := false, laid := [("ductus/class.words", laid_ductus_class_words)], narrowed := true }
def BaseAnswersUptoSaid : Prop := baseAnswersUptoRow.holds Tryd.pinned (OpenSpec.upto baseAnswersSpec)

/-- 'ductuslaw05.BasePairs', WHERE WHAT IT READS IS OF BULK AT MOST 1048576: true; the input reads as it did. -/
def basePairsUptoRow : OpenClaim := { program := "ytjmdfkcgglidaaadoor", sum := "d817ee0baa7b5eb88e0e1a90be23cfe4e6c4228fba03d58255ecde0d8dc9285d", func := "ductus/ductuslaw05.BasePairs", spec := "basePairs", named := ["ductus/class.words"], apart := false, laid := [("ductus/class.words", laid_ductus_class_words)], narrowed := true }
def BasePairsUptoSaid : Prop := basePairsUptoRow.holds Tryd.pinned (OpenSpec.upto basePairsSpec)

/-- 'ductuslaw05.BaseSkips', WHERE WHAT IT READS IS OF BULK AT MOST 1048576: true; the input reads as it did. -/
def baseSkipsUptoRow : OpenClaim := { program := "ytjmdfkcgglidaaadoor", sum := "d817ee0baa7b5eb88e0e1a90be23cfe4e6c4228fba03d58255ecde0d8dc9285d", func := "ductus/ductuslaw05.BaseSkips", spec := "baseSkips", named := ["ductus/class.words"], apart := false, laid := [("ductus/class.words", laid_ductus_class_words)], narrowed := true }
def BaseSkipsUptoSaid : Prop := baseSkipsUptoRow.holds Tryd.pinned (OpenSpec.upto baseSkipsSpec)

/-- 'ductuslaw05.BaseFirsts', WHERE WHAT IT READS IS OF BULK AT MOST 1048576: true; the input reads as it did. -/
def baseFirstsUptoRow : OpenClaim := { program := "ytjmdfkcgglidaaadoor", sum := "d817ee0baa7b5eb88e0e1a90be23cfe4e6c4228fba03d58255ecde0d8dc9285d", func := "ductus/ductuslaw05.BaseFirsts", spec := "baseFirsts", named := ["ductus/class.words"], apart := false, laid := [("ductus/class.words", laid_ductus_class_words)], narrowed := true }
def BaseFirstsUptoSaid : Prop := baseFirstsUptoRow.holds Tryd.pinned (OpenSpec.upto baseFirstsSpec)

/-- 'ductuslaw06.ExplicitAnswers', WHERE WHAT IT READS IS OF BULK AT MOST 1048576: true; the input reads as it did. -/
def explicitAnswersUptoRow : OpenClaim := { program := "ytjmdfkcgglidaaadoor", sum := "d817ee0baa7b5eb88e0e1a90be23cfe4e6c4228fba03d58255ecde0d8dc9285d", func := "ductus/ductuslaw06.ExplicitAnswers", spec := "explicitAnswers", named := ["ductus/class.words"], apart := false, laid := [("ductus/class.words", laid_ductus_class_words)], narrowed := true }
def ExplicitAnswersUptoSaid : Prop := explicitAnswersUptoRow.holds Tryd.pinned (OpenSpec.upto explicitAnswersSpec)

/-- 'ductuslaw06.ExplicitBounds', WHERE WHAT IT READS IS OF BULK AT MOST 1048576: true; the input reads as it did. -/
def explicitBoundsUptoRow : OpenClaim := { program := "ytjmdfkcgglidaaadoor", sum := "d817ee0baa7b5eb88e0e1a90be23cfe4e6c4228fba03d58255ecde0d8dc9285d", func := "ductus/ductuslaw06.ExplicitBounds", spec := "explicitBounds", named := ["ductus/class.words"], apart := false, laid := [("ductus/class.words", laid_ductus_class_words)], narrowed := true }
def ExplicitBoundsUptoSaid : Prop := explicitBoundsUptoRow.holds Tryd.pinned (OpenSpec.upto explicitBoundsSpec)

/-- 'ductuslaw06.ExplicitIsolates', WHERE WHAT IT READS IS OF BULK AT MOST 1048576: true; the input reads as it did. -/
def explicitIsolatesUptoRow : OpenClaim := { program := "ytjmdfkcgglidaaadoor", sum := "d817ee0baa7b5eb88e0e1a90be23cfe4e6c4228fba03d58255ecde0d8dc9285d", func := "ductus/ductuslaw06.ExplicitIsolates", spec := "explicitIsolates", named := ["ductus/class.words"], apart := false, laid := [("ductus/class.words", laid_ductus_class_words)], narrowed := true }
def ExplicitIsolatesUptoSaid : Prop := explicitIsolatesUptoRow.holds Tryd.pinned (OpenSpec.upto explicitIsolatesSpec)

/-- 'ductuslaw06.ExplicitNexts', WHERE WHAT IT READS IS OF BULK AT MOST 1048576: true; the input reads as it did. -/
def explicitNextsUptoRow : OpenClaim := { program := "ytjmdfkcgglidaaadoor", sum := "d817ee0baa7b5eb88e0e1a90be23cfe4e6c4228fba03d58255ecde0d8dc9285d", func := "ductus/ductuslaw06.ExplicitNexts", spec := "explicitNexts", named := ["ductus/class.words"], apart := false, laid := [("ductus/class.words", laid_ductus_class_words)], narrowed := true }
def ExplicitNextsUptoSaid : Prop := explicitNextsUptoRow.holds Tryd.pinned (OpenSpec.upto explicitNextsSpec)

/-- 'ductuslaw06.ExplicitBegins', WHERE WHAT IT READS IS OF BULK AT MOST 1048576: true; the input reads as it did. -/
def explicitBeginsUptoRow : OpenClaim := { program := "ytjmdfkcgglidaaadoor", sum := "d817ee0baa7b5eb88e0e1a90be23cfe4e6c4228fba03d58255ecde0d8dc9285d", func := "ductus/ductuslaw06.ExplicitBegins", spec := "explicitBegins", named := ["ductus/class.words"], apart := false, laid := [("ductus/class.words", laid_ductus_class_words)], narrowed := true }
def ExplicitBeginsUptoSaid : Prop := explicitBeginsUptoRow.holds Tryd.pinned (OpenSpec.upto explicitBeginsSpec)

end Rows
end Go.Proofs.YtjmdfkcgglidaaaDoor
