/-
  NARROWER THAN 'FOR EVERY INPUT', by the rows' own cells (each row's printed sentence says how): FragRows: laid · FragAnswers: laid · FragJust: laid · FragAll: laid · FragParts: laid · FragLines: laid.
  DERIVED. THE GIVEN ROWS OF THIS SEAT. 6 by the template 'for every input the law returns true; each argument reads behind the call as it read before'; 0 by the template 'total and deterministic' (their statements: YtpmbmobjnknnhaaGreatDoorTotals.lean).
  GIVEN WITH THE SEED: the statements are not yours to turn. If you find one false, say at which input.
  Laid BY PROGRAM, IN A SANDBOX (cutbox-rows.mjs): the forced cells as the released guide's own fill.sh prints them over the translation e426b57853f1d6fd… (all of the seat's roots in one cut). By AI agents, Wed Nov 11 2026. No macro, syntax, notation, axiom, sorry.
-/
import Derived.Test.YtpmbmobjnknnhaaGreatDoorChecked
import GoSem.Claim
import GoSem.ClaimJoined
import GoSem.ClaimMapViews
import Derived.JoinedTies
import Derived.KernelRfl
namespace Go.Proofs.YtpmbmobjnknnhaaGreatDoor
/- THE CELL 'sum', in the pinned program and in every row, IS THE sha256 OF THE DUMP (.gsa) THAT YtpmbmobjnknnhaaGreatDoorProg.lean LOADS. Nothing in Lean hashes anything: it is a label: what it is worth is what the hold of that sum in a sandbox is worth. -/
noncomputable def Tryz.pinned : Pinned := { name := "ytpmbmobjnknnhaagreatdoor", sum := "e426b57853f1d6fd51fe7fb46f2beb42776bc4b0723a9232c09b4c892f1ed93a", checked := Tryz.checked }
namespace Rows
def none {H : Type} : Left H := { results := [], args := [] }

/- WHAT THE LISTED PACKAGE-LEVEL VARIABLES READ AS WHEN THE CALL BEGINS. Each datum BY PROGRAM (the guide's laid-datum.mjs) off the statement by which the dump's own 'gosem.cut.vars' lays the variable. In a bare row this is a premise. The card (YtpmbmobjnknnhaaGreatDoorCards.lean) ties it to the program's text. -/
def laid_ductus_class_words {H : Type} : DataW H := .agg [.lit (.string [76]), .lit (.string [82]), .lit (.string [65, 76]), .lit (.string [69, 78]), .lit (.string [69, 83]), .lit (.string [69, 84]), .lit (.string [65, 78]), .lit (.string [67, 83]), .lit (.string [78, 83, 77]), .lit (.string [66, 78]), .lit (.string [66]), .lit (.string [83]), .lit (.string [87, 83]), .lit (.string [79, 78]), .lit (.string [76, 82, 69]), .lit (.string [76, 82, 79]), .lit (.string [82, 76, 69]), .lit (.string [82, 76, 79]), .lit (.string [80, 68, 70]), .lit (.string [76, 82, 73]), .lit (.string [82, 76, 73]), .lit (.string [70, 83, 73]), .lit (.string [80, 68, 73])]

/-- 'ductuslaw24.FragRows': WHATEVER THE INPUT: true; the input reads as it did. -/
def fragRowsSpec : ChangeSpec := { name := "fragRows", fn := fun _ => fun
  | [d1, d2, d3] => { results := [.lit (.bool true)], args := [d1, d2, d3] }
  | _ => none }
def fragRowsRow : OpenClaim := { program := "ytpmbmobjnknnhaagreatdoor", sum := "e426b57853f1d6fd51fe7fb46f2beb42776bc4b0723a9232c09b4c892f1ed93a", func := "ductus/ductuslaw24.FragRows", spec := "fragRows", unfollowed := true, recurses := true, named := ["ductus/class.words"], apart := false, laid := [("ductus/class.words", laid_ductus_class_words)] }
def FragRowsSaid : Prop := fragRowsRow.holds Tryz.pinned (OpenSpec.ofChange fragRowsSpec)

/-- ITS FALSE NEIGHBOUR: 'it returns false'. Refute it at one input. -/
def fragRowsWrong : ChangeSpec := { name := "fragRows", fn := fun _ => fun
  | [d1, d2, d3] => { results := [.lit (.bool false)], args := [d1, d2, d3] }
  | _ => none }
def FragRowsWrongFalsely : Prop := fragRowsRow.holds Tryz.pinned (OpenSpec.ofChange fragRowsWrong)

/-- 'ductuslaw24.FragAnswers': WHATEVER THE INPUT: true; the input reads as it did. -/
def fragAnswersSpec : ChangeSpec := { name := "fragAnswers", fn := fun _ => fun
  | [d1, d2, d3] => { results := [.lit (.bool true)], args := [d1, d2, d3] }
  | _ => none }
def fragAnswersRow : OpenClaim := { program := "ytpmbmobjnknnhaagreatdoor", sum := "e426b57853f1d6fd51fe7fb46f2beb42776bc4b0723a9232c09b4c892f1ed93a", func := "ductus/ductuslaw24.FragAnswers", spec := "fragAnswers", unfollowed := true, recurses := true, named := ["ductus/class.words"], apart := false, laid := [("ductus/class.words", laid_ductus_class_words)] }
def FragAnswersSaid : Prop := fragAnswersRow.holds Tryz.pinned (OpenSpec.ofChange fragAnswersSpec)

/-- ITS FALSE NEIGHBOUR: 'it returns false'. Refute it at one input. -/
def fragAnswersWrong : ChangeSpec := { name := "fragAnswers", fn := fun _ => fun
  | [d1, d2, d3] => { results := [.lit (.bool false)], args := [d1, d2, d3] }
  | _ => none }
def FragAnswersWrongFalsely : Prop := fragAnswersRow.holds Tryz.pinned (OpenSpec.ofChange fragAnswersWrong)

/-- 'ductuslaw24.FragJust': WHATEVER THE INPUT: true; the input reads as it did. -/
def fragJustSpec : ChangeSpec := { name := "fragJust", fn := fun _ => fun
  | [d1, d2, d3] => { results := [.lit (.bool true)], args := [d1, d2, d3] }
  | _ => none }
def fragJustRow : OpenClaim := { program := "ytpmbmobjnknnhaagreatdoor", sum := "e426b57853f1d6fd51fe7fb46f2beb42776bc4b0723a9232c09b4c892f1ed93a", func := "ductus/ductuslaw24.FragJust", spec := "fragJust", unfollowed := true, recurses := true, named := ["ductus/class.words"], apart := false, laid := [("ductus/class.words", laid_ductus_class_words)] }
def FragJustSaid : Prop := fragJustRow.holds Tryz.pinned (OpenSpec.ofChange fragJustSpec)

/-- ITS FALSE NEIGHBOUR: 'it returns false'. Refute it at one input. -/
def fragJustWrong : ChangeSpec := { name := "fragJust", fn := fun _ => fun
  | [d1, d2, d3] => { results := [.lit (.bool false)], args := [d1, d2, d3] }
  | _ => none }
def FragJustWrongFalsely : Prop := fragJustRow.holds Tryz.pinned (OpenSpec.ofChange fragJustWrong)

/-- 'ductuslaw24.FragAll': WHATEVER THE INPUT: true; the input reads as it did. -/
def fragAllSpec : ChangeSpec := { name := "fragAll", fn := fun _ => fun
  | [d1, d2, d3] => { results := [.lit (.bool true)], args := [d1, d2, d3] }
  | _ => none }
def fragAllRow : OpenClaim := { program := "ytpmbmobjnknnhaagreatdoor", sum := "e426b57853f1d6fd51fe7fb46f2beb42776bc4b0723a9232c09b4c892f1ed93a", func := "ductus/ductuslaw24.FragAll", spec := "fragAll", unfollowed := true, recurses := true, named := ["ductus/class.words"], apart := false, laid := [("ductus/class.words", laid_ductus_class_words)] }
def FragAllSaid : Prop := fragAllRow.holds Tryz.pinned (OpenSpec.ofChange fragAllSpec)

/-- ITS FALSE NEIGHBOUR: 'it returns false'. Refute it at one input. -/
def fragAllWrong : ChangeSpec := { name := "fragAll", fn := fun _ => fun
  | [d1, d2, d3] => { results := [.lit (.bool false)], args := [d1, d2, d3] }
  | _ => none }
def FragAllWrongFalsely : Prop := fragAllRow.holds Tryz.pinned (OpenSpec.ofChange fragAllWrong)

/-- 'ductuslaw24.FragParts': WHATEVER THE INPUT: true; the input reads as it did. -/
def fragPartsSpec : ChangeSpec := { name := "fragParts", fn := fun _ => fun
  | [d1, d2] => { results := [.lit (.bool true)], args := [d1, d2] }
  | _ => none }
def fragPartsRow : OpenClaim := { program := "ytpmbmobjnknnhaagreatdoor", sum := "e426b57853f1d6fd51fe7fb46f2beb42776bc4b0723a9232c09b4c892f1ed93a", func := "ductus/ductuslaw24.FragParts", spec := "fragParts", unfollowed := true, recurses := true, named := ["ductus/class.words"], apart := false, laid := [("ductus/class.words", laid_ductus_class_words)] }
def FragPartsSaid : Prop := fragPartsRow.holds Tryz.pinned (OpenSpec.ofChange fragPartsSpec)

/-- ITS FALSE NEIGHBOUR: 'it returns false'. Refute it at one input. -/
def fragPartsWrong : ChangeSpec := { name := "fragParts", fn := fun _ => fun
  | [d1, d2] => { results := [.lit (.bool false)], args := [d1, d2] }
  | _ => none }
def FragPartsWrongFalsely : Prop := fragPartsRow.holds Tryz.pinned (OpenSpec.ofChange fragPartsWrong)

/-- 'ductuslaw24.FragLines': WHATEVER THE INPUT: true; the input reads as it did. -/
def fragLinesSpec : ChangeSpec := { name := "fragLines", fn := fun _ => fun
  | [d1, d2, d3] => { results := [.lit (.bool true)], args := [d1, d2, d3] }
  | _ => none }
def fragLinesRow : OpenClaim := { program := "ytpmbmobjnknnhaagreatdoor", sum := "e426b57853f1d6fd51fe7fb46f2beb42776bc4b0723a9232c09b4c892f1ed93a", func := "ductus/ductuslaw24.FragLines", spec := "fragLines", unfollowed := true, recurses := true, named := ["ductus/class.words"], apart := false, laid := [("ductus/class.words", laid_ductus_class_words)] }
def FragLinesSaid : Prop := fragLinesRow.holds Tryz.pinned (OpenSpec.ofChange fragLinesSpec)

/-- ITS FALSE NEIGHBOUR: 'it returns false'. Refute it at one input. -/
def fragLinesWrong : ChangeSpec := { name := "fragLines", fn := fun _ => fun
  | [d1, d2, d3] => { results := [.lit (.bool false)], args := [d1, d2, d3] }
  | _ => none }
def FragLinesWrongFalsely : Prop := fragLinesRow.holds Tryz.pinned (OpenSpec.ofChange fragLinesWrong)

/- THE SECOND FORM. 'bulk': how many values and letters a reading holds, each counted each time it is reached (what is shared counts as often as it is met; a slice's spare places count too). A statement '..UptoSaid' is the law's where the arguments, and the package variables that the reading takes, are together of bulk at most 1048576: NARROWER than '..Said'. Prove '..Said' where nothing that the law and all that it calls make is longer than what came in: it says more and counts as full. Else prove '..UptoSaid'. A law counts once. -/
mutual
def uptoBulk {H : Type} : DataW H → Nat
  | .lit (.string bytes) => bytes.length + 1
  | .lit _ => 1
  | .nil => 1
  | .ptr d => uptoBulk d + 1
  | .slice elems spare => uptoBulkAll elems + uptoBulkAll spare + 1
  | .agg parts => uptoBulkAll parts + 1
  | .iface _ d => uptoBulk d + 1
  | .map entries => uptoBulkEntries entries + 1
  | .held _ => 1
def uptoBulkAll {H : Type} : List (DataW H) → Nat
  | [] => 0
  | d :: r => uptoBulk d + uptoBulkAll r
def uptoBulkEntries {H : Type} : List (Lit × DataW H) → Nat
  | [] => 0
  | x :: r => uptoBulkEntry x + uptoBulkEntries r
def uptoBulkEntry {H : Type} : Lit × DataW H → Nat
  | (.string bytes, d) => bytes.length + uptoBulk d + 1
  | (_, d) => uptoBulk d + 1
 end
def uptoSmall : (H : Type) → List (DataW H) → Bool := fun _ ds => decide (uptoBulkAll ds ≤ 1048576)
def OpenSpec.upto (s : _root_.Go.ChangeSpec) : _root_.Go.OpenSpec := { _root_.Go.OpenSpec.ofChange s with cond := some uptoSmall }

/-- 'ductuslaw24.FragRows', WHERE WHAT IT READS IS OF BULK AT MOST 1048576: true; the input reads as it did. -/
def fragRowsUptoRow : OpenClaim := { program := "ytpmbmobjnknnhaagreatdoor", sum := "e426b57853f1d6fd51fe7fb46f2beb42776bc4b0723a9232c09b4c892f1ed93a", func := "ductus/ductuslaw24.FragRows", spec := "fragRows", unfollowed := true, recurses := true, named := ["ductus/class.words"], apart := false, laid := [("ductus/class.words", laid_ductus_class_words)], narrowed := true }
def FragRowsUptoSaid : Prop := fragRowsUptoRow.holds Tryz.pinned (OpenSpec.upto fragRowsSpec)

/-- 'ductuslaw24.FragAnswers', WHERE WHAT IT READS IS OF BULK AT MOST 1048576: true; the input reads as it did. -/
def fragAnswersUptoRow : OpenClaim := { program := "ytpmbmobjnknnhaagreatdoor", sum := "e426b57853f1d6fd51fe7fb46f2beb42776bc4b0723a9232c09b4c892f1ed93a", func := "ductus/ductuslaw24.FragAnswers", spec := "fragAnswers", unfollowed := true, recurses := true, named := ["ductus/class.words"], apart := false, laid := [("ductus/class.words", laid_ductus_class_words)], narrowed := true }
def FragAnswersUptoSaid : Prop := fragAnswersUptoRow.holds Tryz.pinned (OpenSpec.upto fragAnswersSpec)

/-- 'ductuslaw24.FragJust', WHERE WHAT IT READS IS OF BULK AT MOST 1048576: true; the input reads as it did. -/
def fragJustUptoRow : OpenClaim := { program := "ytpmbmobjnknnhaagreatdoor", sum := "e426b57853f1d6fd51fe7fb46f2beb42776bc4b0723a9232c09b4c892f1ed93a", func := "ductus/ductuslaw24.FragJust", spec := "fragJust", unfollowed := true, recurses := true, named := ["ductus/class.words"], apart := false, laid := [("ductus/class.words", laid_ductus_class_words)], narrowed := true }
def FragJustUptoSaid : Prop := fragJustUptoRow.holds Tryz.pinned (OpenSpec.upto fragJustSpec)

/-- 'ductuslaw24.FragAll', WHERE WHAT IT READS IS OF BULK AT MOST 1048576: true; the input reads as it did. -/
def fragAllUptoRow : OpenClaim := { program := "ytpmbmobjnknnhaagreatdoor", sum := "e426b57853f1d6fd51fe7fb46f2beb42776bc4b0723a9232c09b4c892f1ed93a", func := "ductus/ductuslaw24.FragAll", spec := "fragAll", unfollowed := true, recurses := true, named := ["ductus/class.words"], apart := false, laid := [("ductus/class.words", laid_ductus_class_words)], narrowed := true }
def FragAllUptoSaid : Prop := fragAllUptoRow.holds Tryz.pinned (OpenSpec.upto fragAllSpec)

/-- 'ductuslaw24.FragParts', WHERE WHAT IT READS IS OF BULK AT MOST 1048576: true; the input reads as it did. -/
def fragPartsUptoRow : OpenClaim := { program := "ytpmbmobjnknnhaagreatdoor", sum := "e426b57853f1d6fd51fe7fb46f2beb42776bc4b0723a9232c09b4c892f1ed93a", func := "ductus/ductuslaw24.FragParts", spec := "fragParts", unfollowed := true, recurses := true, named := ["ductus/class.words"], apart := false, laid := [("ductus/class.words", laid_ductus_class_words)], narrowed := true }
def FragPartsUptoSaid : Prop := fragPartsUptoRow.holds Tryz.pinned (OpenSpec.upto fragPartsSpec)

/-- 'ductuslaw24.FragLines', WHERE WHAT IT READS IS OF BULK AT MOST 1048576: true; the input reads as it did. -/
def fragLinesUptoRow : OpenClaim := { program := "ytpmbmobjnknnhaagreatdoor", sum := "e426b57853f1d6fd51fe7fb46f2beb42776bc4b0723a9232c09b4c892f1ed93a", func := "ductus/ductuslaw24.FragLines", spec := "fragLines", unfollowed := true, recurses := true, named := ["ductus/class.words"], apart := false, laid := [("ductus/class.words", laid_ductus_class_words)], narrowed := true }
def FragLinesUptoSaid : Prop := fragLinesUptoRow.holds Tryz.pinned (OpenSpec.upto fragLinesSpec)

end Rows
end Go.Proofs.YtpmbmobjnknnhaaGreatDoor
