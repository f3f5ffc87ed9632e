/-
  DERIVED. GIVEN WITH THE SEED: THE CARDS: each row of YtmeljalphfcieaaGreatDoorRows.lean that lists a variable, with what it lists TIED to the program's text (the seventh form; the later family's looks); each row that meets fmt, with fmt's text TOLD by the authors' own Lean function (tested against real Go, not proved from fmt's source: count such statements apart). THE CARD IS WHAT COUNTS. Prove the row's statement (the work); the ties are given (YtmeljalphfcieaaGreatDoorTie.lean); close each card by the builder's one call (the guide's Derived/Test/ToyasCard.lean, 'card_holds'). Laid BY PROGRAM, IN A SANDBOX (cutbox-door.mjs). By AI agents, Wed Nov 11 2026. No macro, syntax, notation, axiom, sorry.
-/
import Derived.Test.YtmeljalphfcieaaGreatDoorRows
import GoSem.ClaimSeven
namespace Go.Proofs.YtmeljalphfcieaaGreatDoor
namespace Rows

/-- THE TIED CARD OF 'quadformlaw29.ExistenceGenera'. -/
def existenceGeneraCard : Claim7 := { stood := { row := existenceGeneraRow, standIns := [], harness := (true, "6ea1e0576b9246830ca2c50d1bde92ddba62c6c3acb9d2543b49cbcae4a050df"), looks := false }, kinds := [], alts := [], laidByText := true, laidKinds := [.data], laidTests := true, laidLooks := .later }
def ExistenceGeneraCardSaid : Prop := Claim7.holds Tryz.pinned (.plain (OpenSpec.ofChange existenceGeneraSpec)) existenceGeneraCard

/-- THE SECOND FORM's CARD OF 'quadformlaw29.ExistenceGenera'. -/
def existenceGeneraUptoCard : Claim7 := { stood := { row := existenceGeneraUptoRow, standIns := [], harness := (true, "6ea1e0576b9246830ca2c50d1bde92ddba62c6c3acb9d2543b49cbcae4a050df"), looks := false }, kinds := [], alts := [], laidByText := true, laidKinds := [.data], laidTests := true, laidLooks := .later }
def ExistenceGeneraUptoCardSaid : Prop := Claim7.holds Tryz.pinned (.plain (OpenSpec.upto existenceGeneraSpec)) existenceGeneraUptoCard
end Rows
end Go.Proofs.YtmeljalphfcieaaGreatDoor
