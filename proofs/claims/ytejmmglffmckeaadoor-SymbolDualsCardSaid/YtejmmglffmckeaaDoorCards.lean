/-
  DERIVED. GIVEN WITH THE SEED: THE CARDS: each row of YtejmmglffmckeaaDoorRows.lean that lists a variable, with what it lists TIED to the program's text (the seventh form; the later family's looks); each row that meets fmt, with fmt's text TOLD by the authors' own Lean function (tested against real Go, not proved from fmt's source: count such statements apart). THE CARD IS WHAT COUNTS. Prove the row's statement (the work); the ties are given (YtejmmglffmckeaaDoorTie.lean); close each card by the builder's one call (the guide's Derived/Test/ToyasCard.lean, 'card_holds'). Laid BY PROGRAM, IN A SANDBOX (cutbox-door.mjs). By AI agents, Wed Nov 11 2026. No macro, syntax, notation, axiom, sorry.
-/
import Derived.Test.YtejmmglffmckeaaDoorRows
import GoSem.ClaimSeven
namespace Go.Proofs.YtejmmglffmckeaaDoor
namespace Rows

/-- THE TIED CARD OF 'quadformlaw26.SymbolDuals'. -/
def symbolDualsCard : Claim7 := { stood := { row := symbolDualsRow, standIns := [], harness := (true, "b482d236aa01dcd73ad58f8d8b85d16e72c86ca996381f36a45f3a5adf8d76a4"), looks := false }, kinds := [], alts := [], laidByText := true, laidKinds := [.data, .data, .data, .data], laidTests := true, laidLooks := .later }
def SymbolDualsCardSaid : Prop := Claim7.holds Tryd.pinned (.plain (OpenSpec.ofChange symbolDualsSpec)) symbolDualsCard

/-- THE SECOND FORM's CARD OF 'quadformlaw26.SymbolDuals'. -/
def symbolDualsUptoCard : Claim7 := { stood := { row := symbolDualsUptoRow, standIns := [], harness := (true, "b482d236aa01dcd73ad58f8d8b85d16e72c86ca996381f36a45f3a5adf8d76a4"), looks := false }, kinds := [], alts := [], laidByText := true, laidKinds := [.data, .data, .data, .data], laidTests := true, laidLooks := .later }
def SymbolDualsUptoCardSaid : Prop := Claim7.holds Tryd.pinned (.plain (OpenSpec.upto symbolDualsSpec)) symbolDualsUptoCard
end Rows
end Go.Proofs.YtejmmglffmckeaaDoor
