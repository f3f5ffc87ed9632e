/-
  DERIVED. GIVEN WITH THE SEED: THE CARDS: each row of YtdbdoalefmliiaaGreatDoorRows.lean that lists a variable, with what it lists TIED to the program's text (the seventh form; the later family's looks); each row that meets fmt, with fmt's text TOLD by the authors' own Lean function (tested against real Go, not proved from fmt's source: count such statements apart). THE CARD IS WHAT COUNTS. Prove the row's statement (the work); the ties are given (YtdbdoalefmliiaaGreatDoorTie.lean); close each card by the builder's one call (the guide's Derived/Test/ToyasCard.lean, 'card_holds'). Laid BY PROGRAM, IN A SANDBOX (cutbox-door.mjs). By AI agents, Wed Nov 11 2026. No macro, syntax, notation, axiom, sorry.
-/
import Derived.Test.YtdbdoalefmliiaaGreatDoorRows
import GoSem.ClaimSeven
namespace Go.Proofs.YtdbdoalefmliiaaGreatDoor
namespace Rows

/-- THE TIED CARD OF 'quadformlaw29.ExistenceOne'. -/
def existenceOneCard : Claim7 := { stood := { row := existenceOneRow, standIns := [], harness := (true, "901fe0f077365f24832ce6487c51381829902e53258f95626f2d708d87429146"), looks := false }, kinds := [], alts := [], laidByText := true, laidKinds := [.data], laidTests := true, laidLooks := .later }
def ExistenceOneCardSaid : Prop := Claim7.holds Tryz.pinned (.plain (OpenSpec.ofChange existenceOneSpec)) existenceOneCard

/-- THE SECOND FORM's CARD OF 'quadformlaw29.ExistenceOne'. -/
def existenceOneUptoCard : Claim7 := { stood := { row := existenceOneUptoRow, standIns := [], harness := (true, "901fe0f077365f24832ce6487c51381829902e53258f95626f2d708d87429146"), looks := false }, kinds := [], alts := [], laidByText := true, laidKinds := [.data], laidTests := true, laidLooks := .later }
def ExistenceOneUptoCardSaid : Prop := Claim7.holds Tryz.pinned (.plain (OpenSpec.upto existenceOneSpec)) existenceOneUptoCard
end Rows
end Go.Proofs.YtdbdoalefmliiaaGreatDoor
