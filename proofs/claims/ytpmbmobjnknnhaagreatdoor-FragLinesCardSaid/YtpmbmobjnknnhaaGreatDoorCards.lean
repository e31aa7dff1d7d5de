/-
  DERIVED. GIVEN WITH THE SEED: THE CARDS: each row of YtpmbmobjnknnhaaGreatDoorRows.lean that lists a variable, with what it lists TIED to the program's text (the seventh form; the later family's looks); each row that meets fmt, with fmt's text TOLD by the authors' own Lean function (tested against real Go, not proved from fmt's source: count such statements apart). THE CARD IS WHAT COUNTS. Prove the row's statement (the work); the ties are given (YtpmbmobjnknnhaaGreatDoorTie.lean); close each card by the builder's one call (the guide's Derived/Test/ToyasCard.lean, 'card_holds'). Laid BY PROGRAM, IN A SANDBOX (cutbox-door.mjs). By AI agents, Wed Nov 11 2026. No macro, syntax, notation, axiom, sorry.
-/
import Derived.Test.YtpmbmobjnknnhaaGreatDoorRows
import GoSem.ClaimSeven
namespace Go.Proofs.YtpmbmobjnknnhaaGreatDoor
namespace Rows

/-- THE TIED CARD OF 'ductuslaw24.FragRows'. -/
def fragRowsCard : Claim7 := { stood := { row := fragRowsRow, standIns := [], harness := (true, "889ea9c9417e27e68ff45d04ebb868805cdc188404ad09f1e73996c4456331a3"), looks := false }, kinds := [], alts := [], laidByText := true, laidKinds := [.data], laidTests := true, laidLooks := .later }
def FragRowsCardSaid : Prop := Claim7.holds Tryz.pinned (.plain (OpenSpec.ofChange fragRowsSpec)) fragRowsCard

/-- THE TIED CARD OF 'ductuslaw24.FragAnswers'. -/
def fragAnswersCard : Claim7 := { stood := { row := fragAnswersRow, standIns := [], harness := (true, "889ea9c9417e27e68ff45d04ebb868805cdc188404ad09f1e73996c4456331a3"), looks := false }, kinds := [], alts := [], laidByText := true, laidKinds := [.data], laidTests := true, laidLooks := .later }
def FragAnswersCardSaid : Prop := Claim7.holds Tryz.pinned (.plain (OpenSpec.ofChange fragAnswersSpec)) fragAnswersCard

/-- THE TIED CARD OF 'ductuslaw24.FragJust'. -/
def fragJustCard : Claim7 := { stood := { row := fragJustRow, standIns := [], harness := (true, "889ea9c9417e27e68ff45d04ebb868805cdc188404ad09f1e73996c4456331a3"), looks := false }, kinds := [], alts := [], laidByText := true, laidKinds := [.data], laidTests := true, laidLooks := .later }
def FragJustCardSaid : Prop := Claim7.holds Tryz.pinned (.plain (OpenSpec.ofChange fragJustSpec)) fragJustCard

/-- THE TIED CARD OF 'ductuslaw24.FragAll'. -/
def fragAllCard : Claim7 := { stood := { row := fragAllRow, standIns := [], harness := (true, "889ea9c9417e27e68ff45d04ebb868805cdc188404ad09f1e73996c4456331a3"), looks := false }, kinds := [], alts := [], laidByText := true, laidKinds := [.data], laidTests := true, laidLooks := .later }
def FragAllCardSaid : Prop := Claim7.holds Tryz.pinned (.plain (OpenSpec.ofChange fragAllSpec)) fragAllCard

/-- THE TIED CARD OF 'ductuslaw24.FragParts'. -/
def fragPartsCard : Claim7 := { stood := { row := fragPartsRow, standIns := [], harness := (true, "889ea9c9417e27e68ff45d04ebb868805cdc188404ad09f1e73996c4456331a3"), looks := false }, kinds := [], alts := [], laidByText := true, laidKinds := [.data], laidTests := true, laidLooks := .later }
def FragPartsCardSaid : Prop := Claim7.holds Tryz.pinned (.plain (OpenSpec.ofChange fragPartsSpec)) fragPartsCard

/-- THE TIED CARD OF 'ductuslaw24.FragLines'. -/
def fragLinesCard : Claim7 := { stood := { row := fragLinesRow, standIns := [], harness := (true, "889ea9c9417e27e68ff45d04ebb868805cdc188404ad09f1e73996c4456331a3"), looks := false }, kinds := [], alts := [], laidByText := true, laidKinds := [.data], laidTests := true, laidLooks := .later }
def FragLinesCardSaid : Prop := Claim7.holds Tryz.pinned (.plain (OpenSpec.ofChange fragLinesSpec)) fragLinesCard

/-- THE SECOND FORM's CARD OF 'ductuslaw24.FragRows'. -/
def fragRowsUptoCard : Claim7 := { stood := { row := fragRowsUptoRow, standIns := [], harness := (true, "889ea9c9417e27e68ff45d04ebb868805cdc188404ad09f1e73996c4456331a3"), looks := false }, kinds := [], alts := [], laidByText := true, laidKinds := [.data], laidTests := true, laidLooks := .later }
def FragRowsUptoCardSaid : Prop := Claim7.holds Tryz.pinned (.plain (OpenSpec.upto fragRowsSpec)) fragRowsUptoCard

/-- THE SECOND FORM's CARD OF 'ductuslaw24.FragAnswers'. -/
def fragAnswersUptoCard : Claim7 := { stood := { row := fragAnswersUptoRow, standIns := [], harness := (true, "889ea9c9417e27e68ff45d04ebb868805cdc188404ad09f1e73996c4456331a3"), looks := false }, kinds := [], alts := [], laidByText := true, laidKinds := [.data], laidTests := true, laidLooks := .later }
def FragAnswersUptoCardSaid : Prop := Claim7.holds Tryz.pinned (.plain (OpenSpec.upto fragAnswersSpec)) fragAnswersUptoCard

/-- THE SECOND FORM's CARD OF 'ductuslaw24.FragJust'. -/
def fragJustUptoCard : Claim7 := { stood := { row := fragJustUptoRow, standIns := [], harness := (true, "889ea9c9417e27e68ff45d04ebb868805cdc188404ad09f1e73996c4456331a3"), looks := false }, kinds := [], alts := [], laidByText := true, laidKinds := [.data], laidTests := true, laidLooks := .later }
def FragJustUptoCardSaid : Prop := Claim7.holds Tryz.pinned (.plain (OpenSpec.upto fragJustSpec)) fragJustUptoCard

/-- THE SECOND FORM's CARD OF 'ductuslaw24.FragAll'. -/
def fragAllUptoCard : Claim7 := { stood := { row := fragAllUptoRow, standIns := [], harness := (true, "889ea9c9417e27e68ff45d04ebb868805cdc188404ad09f1e73996c4456331a3"), looks := false }, kinds := [], alts := [], laidByText := true, laidKinds := [.data], laidTests := true, laidLooks := .later }
def FragAllUptoCardSaid : Prop := Claim7.holds Tryz.pinned (.plain (OpenSpec.upto fragAllSpec)) fragAllUptoCard

/-- THE SECOND FORM's CARD OF 'ductuslaw24.FragParts'. -/
def fragPartsUptoCard : Claim7 := { stood := { row := fragPartsUptoRow, standIns := [], harness := (true, "889ea9c9417e27e68ff45d04ebb868805cdc188404ad09f1e73996c4456331a3"), looks := false }, kinds := [], alts := [], laidByText := true, laidKinds := [.data], laidTests := true, laidLooks := .later }
def FragPartsUptoCardSaid : Prop := Claim7.holds Tryz.pinned (.plain (OpenSpec.upto fragPartsSpec)) fragPartsUptoCard

/-- THE SECOND FORM's CARD OF 'ductuslaw24.FragLines'. -/
def fragLinesUptoCard : Claim7 := { stood := { row := fragLinesUptoRow, standIns := [], harness := (true, "889ea9c9417e27e68ff45d04ebb868805cdc188404ad09f1e73996c4456331a3"), looks := false }, kinds := [], alts := [], laidByText := true, laidKinds := [.data], laidTests := true, laidLooks := .later }
def FragLinesUptoCardSaid : Prop := Claim7.holds Tryz.pinned (.plain (OpenSpec.upto fragLinesSpec)) fragLinesUptoCard
end Rows
end Go.Proofs.YtpmbmobjnknnhaaGreatDoor
