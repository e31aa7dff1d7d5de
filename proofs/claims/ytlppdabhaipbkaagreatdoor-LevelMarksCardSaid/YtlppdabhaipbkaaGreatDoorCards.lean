/-
  DERIVED. GIVEN WITH THE SEED: THE CARDS: each row of YtlppdabhaipbkaaGreatDoorRows.lean that lists a variable, with what it lists TIED to the program's text (the seventh form; the later family's looks); each row that meets fmt, with fmt's text TOLD by the authors' own Lean function (tested against real Go, not proved from fmt's source: count such statements apart). THE CARD IS WHAT COUNTS. Prove the row's statement (the work); the ties are given (YtlppdabhaipbkaaGreatDoorTie.lean); close each card by the builder's one call (the guide's Derived/Test/ToyasCard.lean, 'card_holds'). Laid BY PROGRAM, IN A SANDBOX (cutbox-door.mjs). By AI agents, Wed Nov 11 2026. No macro, syntax, notation, axiom, sorry.
-/
import Derived.Test.YtlppdabhaipbkaaGreatDoorRows
import GoSem.ClaimSeven
namespace Go.Proofs.YtlppdabhaipbkaaGreatDoor
namespace Rows

/-- THE TIED CARD OF 'ductuslaw12.LevelMarks'. -/
def levelMarksCard : Claim7 := { stood := { row := levelMarksRow, standIns := [], harness := (true, "ce4cf017e21e9c4bc084fcae611813f64ee971f748b7e7bc9200d00bdcb6cb9d"), looks := false }, kinds := [], alts := [], laidByText := true, laidKinds := [.data], laidTests := true, laidLooks := .later }
def LevelMarksCardSaid : Prop := Claim7.holds Tryz.pinned (.plain (OpenSpec.ofChange levelMarksSpec)) levelMarksCard

/-- THE TIED CARD OF 'ductuslaw12.LevelAnswers'. -/
def levelAnswersCard : Claim7 := { stood := { row := levelAnswersRow, standIns := [], harness := (true, "ce4cf017e21e9c4bc084fcae611813f64ee971f748b7e7bc9200d00bdcb6cb9d"), looks := false }, kinds := [], alts := [], laidByText := true, laidKinds := [.data], laidTests := true, laidLooks := .later }
def LevelAnswersCardSaid : Prop := Claim7.holds Tryz.pinned (.plain (OpenSpec.ofChange levelAnswersSpec)) levelAnswersCard

/-- THE TIED CARD OF 'ductuslaw12.LevelBounds'. -/
def levelBoundsCard : Claim7 := { stood := { row := levelBoundsRow, standIns := [], harness := (true, "ce4cf017e21e9c4bc084fcae611813f64ee971f748b7e7bc9200d00bdcb6cb9d"), looks := false }, kinds := [], alts := [], laidByText := true, laidKinds := [.data], laidTests := true, laidLooks := .later }
def LevelBoundsCardSaid : Prop := Claim7.holds Tryz.pinned (.plain (OpenSpec.ofChange levelBoundsSpec)) levelBoundsCard

/-- THE SECOND FORM's CARD OF 'ductuslaw12.LevelMarks'. -/
def levelMarksUptoCard : Claim7 := { stood := { row := levelMarksUptoRow, standIns := [], harness := (true, "ce4cf017e21e9c4bc084fcae611813f64ee971f748b7e7bc9200d00bdcb6cb9d"), looks := false }, kinds := [], alts := [], laidByText := true, laidKinds := [.data], laidTests := true, laidLooks := .later }
def LevelMarksUptoCardSaid : Prop := Claim7.holds Tryz.pinned (.plain (OpenSpec.upto levelMarksSpec)) levelMarksUptoCard

/-- THE SECOND FORM's CARD OF 'ductuslaw12.LevelAnswers'. -/
def levelAnswersUptoCard : Claim7 := { stood := { row := levelAnswersUptoRow, standIns := [], harness := (true, "ce4cf017e21e9c4bc084fcae611813f64ee971f748b7e7bc9200d00bdcb6cb9d"), looks := false }, kinds := [], alts := [], laidByText := true, laidKinds := [.data], laidTests := true, laidLooks := .later }
def LevelAnswersUptoCardSaid : Prop := Claim7.holds Tryz.pinned (.plain (OpenSpec.upto levelAnswersSpec)) levelAnswersUptoCard

/-- THE SECOND FORM's CARD OF 'ductuslaw12.LevelBounds'. -/
def levelBoundsUptoCard : Claim7 := { stood := { row := levelBoundsUptoRow, standIns := [], harness := (true, "ce4cf017e21e9c4bc084fcae611813f64ee971f748b7e7bc9200d00bdcb6cb9d"), looks := false }, kinds := [], alts := [], laidByText := true, laidKinds := [.data], laidTests := true, laidLooks := .later }
def LevelBoundsUptoCardSaid : Prop := Claim7.holds Tryz.pinned (.plain (OpenSpec.upto levelBoundsSpec)) levelBoundsUptoCard
end Rows
end Go.Proofs.YtlppdabhaipbkaaGreatDoor
