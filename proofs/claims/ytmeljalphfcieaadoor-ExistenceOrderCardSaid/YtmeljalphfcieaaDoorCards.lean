/-
  DERIVED. GIVEN WITH THE SEED: THE CARDS: each row of YtmeljalphfcieaaDoorRows.lean that lists a variable, with what it lists TIED to the program's text (the seventh form; the later family's looks); each row that meets fmt, with fmt's text TOLD by the authors' own Lean function (tested against real Go, not proved from fmt's source: count such statements apart). THE CARD IS WHAT COUNTS. Prove the row's statement (the work); the ties are given (YtmeljalphfcieaaDoorTie.lean); close each card by the builder's one call (the guide's Derived/Test/ToyasCard.lean, 'card_holds'). Laid BY PROGRAM, IN A SANDBOX (cutbox-door.mjs). By AI agents, Wed Nov 11 2026. No macro, syntax, notation, axiom, sorry.
-/
import Derived.Test.YtmeljalphfcieaaDoorRows
import GoSem.ClaimSeven
namespace Go.Proofs.YtmeljalphfcieaaDoor
namespace Rows

/-- THE TIED CARD OF 'quadformlaw29.ExistenceOrder'. -/
def existenceOrderCard : Claim7 := { stood := { row := existenceOrderRow, standIns := [], harness := (true, "c96bc0645516b3896ac98c70e043f0efd23318ae4b8fcbf409d70cb53939a8b8"), looks := false }, kinds := [], alts := [], laidByText := true, laidKinds := [.data], laidTests := true, laidLooks := .later }
def ExistenceOrderCardSaid : Prop := Claim7.holds Tryd.pinned (.plain (OpenSpec.ofChange existenceOrderSpec)) existenceOrderCard

/-- THE SECOND FORM's CARD OF 'quadformlaw29.ExistenceOrder'. -/
def existenceOrderUptoCard : Claim7 := { stood := { row := existenceOrderUptoRow, standIns := [], harness := (true, "c96bc0645516b3896ac98c70e043f0efd23318ae4b8fcbf409d70cb53939a8b8"), looks := false }, kinds := [], alts := [], laidByText := true, laidKinds := [.data], laidTests := true, laidLooks := .later }
def ExistenceOrderUptoCardSaid : Prop := Claim7.holds Tryd.pinned (.plain (OpenSpec.upto existenceOrderSpec)) existenceOrderUptoCard
end Rows
end Go.Proofs.YtmeljalphfcieaaDoor
