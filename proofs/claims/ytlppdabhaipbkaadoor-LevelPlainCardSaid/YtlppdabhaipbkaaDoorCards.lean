/-
  DERIVED. GIVEN WITH THE SEED: THE CARDS: each row of YtlppdabhaipbkaaDoorRows.lean that lists a variable, with what it lists TIED to the program's text (the seventh form; the later family's looks); each row that meets fmt, with fmt's text TOLD by the authors' own Lean function (tested against real Go, not proved from fmt's source: count such statements apart). THE CARD IS WHAT COUNTS. Prove the row's statement (the work); the ties are given (YtlppdabhaipbkaaDoorTie.lean); close each card by the builder's one call (the guide's Derived/Test/ToyasCard.lean, 'card_holds'). Laid BY PROGRAM, IN A SANDBOX (cutbox-door.mjs). By AI agents, Wed Nov 11 2026. No macro, syntax, notation, axiom, sorry.
-/
import Derived.Test.YtlppdabhaipbkaaDoorRows
import GoSem.ClaimSeven
namespace Go.Proofs.YtlppdabhaipbkaaDoor
namespace Rows

/-- THE TIED CARD OF 'ductuslaw12.LevelPlain'. -/
def levelPlainCard : Claim7 := { stood := { row := levelPlainRow, standIns := [], harness := (true, "df16186532d43108eac48d651a81dab44279b02d739a31fbe62cb1707fa1ff3d"), looks := false }, kinds := [], alts := [], laidByText := true, laidKinds := [.data], laidTests := true, laidLooks := .later }
def LevelPlainCardSaid : Prop := Claim7.holds Tryd.pinned (.plain (OpenSpec.ofChange levelPlainSpec)) levelPlainCard

/-- THE TIED CARD OF 'ductuslaw12.LevelMosts'. -/
def levelMostsCard : Claim7 := { stood := { row := levelMostsRow, standIns := [], harness := (true, "df16186532d43108eac48d651a81dab44279b02d739a31fbe62cb1707fa1ff3d"), looks := false }, kinds := [], alts := [], laidByText := true, laidKinds := [.data], laidTests := true, laidLooks := .later }
def LevelMostsCardSaid : Prop := Claim7.holds Tryd.pinned (.plain (OpenSpec.ofChange levelMostsSpec)) levelMostsCard

/-- THE SECOND FORM's CARD OF 'ductuslaw12.LevelPlain'. -/
def levelPlainUptoCard : Claim7 := { stood := { row := levelPlainUptoRow, standIns := [], harness := (true, "df16186532d43108eac48d651a81dab44279b02d739a31fbe62cb1707fa1ff3d"), looks := false }, kinds := [], alts := [], laidByText := true, laidKinds := [.data], laidTests := true, laidLooks := .later }
def LevelPlainUptoCardSaid : Prop := Claim7.holds Tryd.pinned (.plain (OpenSpec.upto levelPlainSpec)) levelPlainUptoCard

/-- THE SECOND FORM's CARD OF 'ductuslaw12.LevelMosts'. -/
def levelMostsUptoCard : Claim7 := { stood := { row := levelMostsUptoRow, standIns := [], harness := (true, "df16186532d43108eac48d651a81dab44279b02d739a31fbe62cb1707fa1ff3d"), looks := false }, kinds := [], alts := [], laidByText := true, laidKinds := [.data], laidTests := true, laidLooks := .later }
def LevelMostsUptoCardSaid : Prop := Claim7.holds Tryd.pinned (.plain (OpenSpec.upto levelMostsSpec)) levelMostsUptoCard
end Rows
end Go.Proofs.YtlppdabhaipbkaaDoor
