/-
  DERIVED. GIVEN WITH THE SEED: THE CARDS: each row of YtjmdfkcgglidaaaDoorRows.lean that lists a variable, with what it lists TIED to the program's text (the seventh form; the later family's looks); each row that meets fmt, with fmt's text TOLD by the authors' own Lean function (tested against real Go, not proved from fmt's source: count such statements apart). THE CARD IS WHAT COUNTS. Prove the row's statement (the work); the ties are given (YtjmdfkcgglidaaaDoorTie.lean); close each card by the builder's one call (the guide's Derived/Test/ToyasCard.lean, 'card_holds'). Laid BY PROGRAM, IN A SANDBOX (cutbox-door.mjs). By AI agents, Wed Nov 11 2026. No macro, syntax, notation, axiom, sorry.
-/
import Derived.Test.YtjmdfkcgglidaaaDoorRows
import GoSem.ClaimSeven
namespace Go.Proofs.YtjmdfkcgglidaaaDoor
namespace Rows

/-- THE TIED CARD OF 'ductuslaw05.BaseAnswers'. -/
def baseAnswersCard : Claim7 := { stood := { row := baseAnswersRow, standIns := [], harness := (true, "46d9fed1b6c481662a71efd9a148647baa88081749193cc8af5f1ce59b091ff1"), looks := false }, kinds := [], alts := [], laidByText := true, laidKinds := [.data], laidTests := true, laidLooks := .later }
def BaseAnswersCardSaid : Prop := Claim7.holds Tryd.pinned (.plain (OpenSpec.ofChange baseAnswersSpec)) baseAnswersCard

/-- THE TIED CARD OF 'ductuslaw05.BasePairs'. -/
def basePairsCard : Claim7 := { stood := { row := basePairsRow, standIns := [], harness := (true, "46d9fed1b6c481662a71efd9a148647baa88081749193cc8af5f1ce59b091ff1"), looks := false }, kinds := [], alts := [], laidByText := true, laidKinds := [.data], laidTests := true, laidLooks := .later }
def BasePairsCardSaid : Prop := Claim7.holds Tryd.pinned (.plain (OpenSpec.ofChange basePairsSpec)) basePairsCard

/-- THE TIED CARD OF 'ductuslaw05.BaseSkips'. -/
def baseSkipsCard : Claim7 := { stood := { row := baseSkipsRow, standIns := [], harness := (true, "46d9fed1b6c481662a71efd9a148647baa88081749193cc8af5f1ce59b091ff1"), looks := false }, kinds := [], alts := [], laidByText := true, laidKinds := [.data], laidTests := true, laidLooks := .later }
def BaseSkipsCardSaid : Prop := Claim7.holds Tryd.pinned (.plain (OpenSpec.ofChange baseSkipsSpec)) baseSkipsCard

/-- THE TIED CARD OF 'ductuslaw05.BaseFirsts'. -/
def baseFirstsCard : Claim7 := { stood := { row := baseFirstsRow, standIns := [], harness := (true, "46d9fed1b6c481662a71efd9a148647baa88081749193cc8af5f1ce59b091ff1"), looks := false }, kinds := [], alts := [], laidByText := true, laidKinds := [.data], laidTests := true, laidLooks := .later }
def BaseFirstsCardSaid : Prop := Claim7.holds Tryd.pinned (.plain (OpenSpec.ofChange baseFirstsSpec)) baseFirstsCard

/-- THE TIED CARD OF 'ductuslaw06.ExplicitAnswers'. -/
def explicitAnswersCard : Claim7 := { stood := { row := explicitAnswersRow, standIns := [], harness := (true, "46d9fed1b6c481662a71efd9a148647baa88081749193cc8af5f1ce59b091ff1"), looks := false }, kinds := [], alts := [], laidByText := true, laidKinds := [.data], laidTests := true, laidLooks := .later }
def ExplicitAnswersCardSaid : Prop := Claim7.holds Tryd.pinned (.plain (OpenSpec.ofChange explicitAnswersSpec)) explicitAnswersCard

/-- THE TIED CARD OF 'ductuslaw06.ExplicitBounds'. -/
def explicitBoundsCard : Claim7 := { stood := { row := explicitBoundsRow, standIns := [], harness := (true, "46d9fed1b6c481662a71efd9a148647baa88081749193cc8af5f1ce59b091ff1"), looks := false }, kinds := [], alts := [], laidByText := true, laidKinds := [.data], laidTests := true, laidLooks := .later }
def ExplicitBoundsCardSaid : Prop := Claim7.holds Tryd.pinned (.plain (OpenSpec.ofChange explicitBoundsSpec)) explicitBoundsCard

/-- THE TIED CARD OF 'ductuslaw06.ExplicitIsolates'. -/
def explicitIsolatesCard : Claim7 := { stood := { row := explicitIsolatesRow, standIns := [], harness := (true, "46d9fed1b6c481662a71efd9a148647baa88081749193cc8af5f1ce59b091ff1"), looks := false }, kinds := [], alts := [], laidByText := true, laidKinds := [.data], laidTests := true, laidLooks := .later }
def ExplicitIsolatesCardSaid : Prop := Claim7.holds Tryd.pinned (.plain (OpenSpec.ofChange explicitIsolatesSpec)) explicitIsolatesCard

/-- THE TIED CARD OF 'ductuslaw06.ExplicitNexts'. -/
def explicitNextsCard : Claim7 := { stood := { row := explicitNextsRow, standIns := [], harness := (true, "46d9fed1b6c481662a71efd9a148647baa88081749193cc8af5f1ce59b091ff1"), looks := false }, kinds := [], alts := [], laidByText := true, laidKinds := [.data], laidTests := true, laidLooks := .later }
def ExplicitNextsCardSaid : Prop := Claim7.holds Tryd.pinned (.plain (OpenSpec.ofChange explicitNextsSpec)) explicitNextsCard

/-- THE TIED CARD OF 'ductuslaw06.ExplicitBegins'. -/
def explicitBeginsCard : Claim7 := { stood := { row := explicitBeginsRow, standIns := [], harness := (true, "46d9fed1b6c481662a71efd9a148647baa88081749193cc8af5f1ce59b091ff1"), looks := false }, kinds := [], alts := [], laidByText := true, laidKinds := [.data], laidTests := true, laidLooks := .later }
def ExplicitBeginsCardSaid : Prop := Claim7.holds Tryd.pinned (.plain (OpenSpec.ofChange explicitBeginsSpec)) explicitBeginsCard

/-- THE SECOND FORM's CARD OF 'ductuslaw05.BaseAnswers'. -/
def baseAnswersUptoCard : Claim7 := { stood := { row := baseAnswersUptoRow, standIns := [], harness := (true, "46d9fed1b6c481662a71efd9a148647baa88081749193cc8af5f1ce59b091ff1"), looks := false }, kinds := [], alts := [], laidByText := true, laidKinds := [.data], laidTests := true, laidLooks := .later }
def BaseAnswersUptoCardSaid : Prop := Claim7.holds Tryd.pinned (.plain (OpenSpec.upto baseAnswersSpec)) baseAnswersUptoCard

/-- THE SECOND FORM's CARD OF 'ductuslaw05.BasePairs'. -/
def basePairsUptoCard : Claim7 := { stood := { row := basePairsUptoRow, standIns := [], harness := (true, "46d9fed1b6c481662a71efd9a148647baa88081749193cc8af5f1ce59b091ff1"), looks := false }, kinds := [], alts := [], laidByText := true, laidKinds := [.data], laidTests := true, laidLooks := .later }
def BasePairsUptoCardSaid : Prop := Claim7.holds Tryd.pinned (.plain (OpenSpec.upto basePairsSpec)) basePairsUptoCard

/-- THE SECOND FORM's CARD OF 'ductuslaw05.BaseSkips'. -/
def baseSkipsUptoCard : Claim7 := { stood := { row := baseSkipsUptoRow, standIns := [], harness := (true, "46d9fed1b6c481662a71efd9a148647baa88081749193cc8af5f1ce59b091ff1"), looks := false }, kinds := [], alts := [], laidByText := true, laidKinds := [.data], laidTests := true, laidLooks := .later }
def BaseSkipsUptoCardSaid : Prop := Claim7.holds Tryd.pinned (.plain (OpenSpec.upto baseSkipsSpec)) baseSkipsUptoCard

/-- THE SECOND FORM's CARD OF 'ductuslaw05.BaseFirsts'. -/
def baseFirstsUptoCard : Claim7 := { stood := { row := baseFirstsUptoRow, standIns := [], harness := (true, "46d9fed1b6c481662a71efd9a148647baa88081749193cc8af5f1ce59b091ff1"), looks := false }, kinds := [], alts := [], laidByText := true, laidKinds := [.data], laidTests := true, laidLooks := .later }
def BaseFirstsUptoCardSaid : Prop := Claim7.holds Tryd.pinned (.plain (OpenSpec.upto baseFirstsSpec)) baseFirstsUptoCard

/-- THE SECOND FORM's CARD OF 'ductuslaw06.ExplicitAnswers'. -/
def explicitAnswersUptoCard : Claim7 := { stood := { row := explicitAnswersUptoRow, standIns := [], harness := (true, "46d9fed1b6c481662a71efd9a148647baa88081749193cc8af5f1ce59b091ff1"), looks := false }, kinds := [], alts := [], laidByText := true, laidKinds := [.data], laidTests := true, laidLooks := .later }
def ExplicitAnswersUptoCardSaid : Prop := Claim7.holds Tryd.pinned (.plain (OpenSpec.upto explicitAnswersSpec)) explicitAnswersUptoCard

/-- THE SECOND FORM's CARD OF 'ductuslaw06.ExplicitBounds'. -/
def explicitBoundsUptoCard : Claim7 := { stood := { row := explicitBoundsUptoRow, standIns := [], harness := (true, "46d9fed1b6c481662a71efd9a148647baa88081749193cc8af5f1ce59b091ff1"), looks := false }, kinds := [], alts := [], laidByText := true, laidKinds := [.data], laidTests := true, laidLooks := .later }
def ExplicitBoundsUptoCardSaid : Prop := Claim7.holds Tryd.pinned (.plain (OpenSpec.upto explicitBoundsSpec)) explicitBoundsUptoCard

/-- THE SECOND FORM's CARD OF 'ductuslaw06.ExplicitIsolates'. -/
def explicitIsolatesUptoCard : Claim7 := { stood := { row := explicitIsolatesUptoRow, standIns := [], harness := (true, "46d9fed1b6c481662a71efd9a148647baa88081749193cc8af5f1ce59b091ff1"), looks := false }, kinds := [], alts := [], laidByText := true, laidKinds := [.data], laidTests := true, laidLooks := .later }
def ExplicitIsolatesUptoCardSaid : Prop := Claim7.holds Tryd.pinned (.plain (OpenSpec.upto explicitIsolatesSpec)) explicitIsolatesUptoCard

/-- THE SECOND FORM's CARD OF 'ductuslaw06.ExplicitNexts'. -/
def explicitNextsUptoCard : Claim7 := { stood := { row := explicitNextsUptoRow, standIns := [], harness := (true, "46d9fed1b6c481662a71efd9a148647baa88081749193cc8af5f1ce59b091ff1"), looks := false }, kinds := [], alts := [], laidByText := true, laidKinds := [.data], laidTests := true, laidLooks := .later }
def ExplicitNextsUptoCardSaid : Prop := Claim7.holds Tryd.pinned (.plain (OpenSpec.upto explicitNextsSpec)) explicitNextsUptoCard

/-- THE SECOND FORM's CARD OF 'ductuslaw06.ExplicitBegins'. -/
def explicitBeginsUptoCard : Claim7 := { stood := { row := explicitBeginsUptoRow, standIns := [], harness := (true, "46d9fed1b6c481662a71efd9a148647baa88081749193cc8af5f1ce59b091ff1"), looks := false }, kinds := [], alts := [], laidByText := true, laidKinds := [.data], laidTests := true, laidLooks := .later }
def ExplicitBeginsUptoCardSaid : Prop := Claim7.holds Tryd.pinned (.plain (OpenSpec.upto explicitBeginsSpec)) explicitBeginsUptoCard
end Rows
end Go.Proofs.YtjmdfkcgglidaaaDoor
