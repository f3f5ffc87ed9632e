/-
  DERIVED. GIVEN WITH THE SEED: THE CARDS: each row of YtbjfdfjmclggkaaGreatDoorRows.lean that lists a variable, with what it lists TIED to the program's text (the seventh form; the later family's looks); each row that meets fmt, with fmt's text TOLD by the authors' own Lean function (tested against real Go, not proved from fmt's source: count such statements apart). THE CARD IS WHAT COUNTS. Prove the row's statement (the work); the ties are given (YtbjfdfjmclggkaaGreatDoorTie.lean); close each card by the builder's one call (the guide's Derived/Test/ToyasCard.lean, 'card_holds'). Laid BY PROGRAM, IN A SANDBOX (cutbox-door.mjs). By AI agents, Wed Nov 11 2026. No macro, syntax, notation, axiom, sorry.
-/
import Derived.Test.YtbjfdfjmclggkaaGreatDoorRows
import GoSem.ClaimSeven
namespace Go.Proofs.YtbjfdfjmclggkaaGreatDoor
namespace Rows

/-- THE TIED CARD OF 'quadformlaw26.SymbolValid'. -/
def symbolValidCard : Claim7 := { stood := { row := symbolValidRow, standIns := [], harness := (true, "ec6d34a92c32c96c9bf0fde0e9d836f98ded463850e758ff121bea9503ea908d"), looks := false }, kinds := [], alts := [], laidByText := true, laidKinds := [.data, .data, .data, .data], laidTests := true, laidLooks := .later }
def SymbolValidCardSaid : Prop := Claim7.holds Tryz.pinned (.plain (OpenSpec.ofChange symbolValidSpec)) symbolValidCard

/-- THE TIED CARD OF 'quadformlaw26.SymbolSums'. -/
def symbolSumsCard : Claim7 := { stood := { row := symbolSumsRow, standIns := [], harness := (true, "ec6d34a92c32c96c9bf0fde0e9d836f98ded463850e758ff121bea9503ea908d"), looks := false }, kinds := [], alts := [], laidByText := true, laidKinds := [.data, .data, .data, .data], laidTests := true, laidLooks := .later }
def SymbolSumsCardSaid : Prop := Claim7.holds Tryz.pinned (.plain (OpenSpec.ofChange symbolSumsSpec)) symbolSumsCard

/-- THE TIED CARD OF 'quadformlaw26.SymbolCompare'. -/
def symbolCompareCard : Claim7 := { stood := { row := symbolCompareRow, standIns := [], harness := (true, "ec6d34a92c32c96c9bf0fde0e9d836f98ded463850e758ff121bea9503ea908d"), looks := false }, kinds := [], alts := [], laidByText := true, laidKinds := [.data, .data, .data, .data], laidTests := true, laidLooks := .later }
def SymbolCompareCardSaid : Prop := Claim7.holds Tryz.pinned (.plain (OpenSpec.ofChange symbolCompareSpec)) symbolCompareCard

/-- THE SECOND FORM's CARD OF 'quadformlaw26.SymbolValid'. -/
def symbolValidUptoCard : Claim7 := { stood := { row := symbolValidUptoRow, standIns := [], harness := (true, "ec6d34a92c32c96c9bf0fde0e9d836f98ded463850e758ff121bea9503ea908d"), looks := false }, kinds := [], alts := [], laidByText := true, laidKinds := [.data, .data, .data, .data], laidTests := true, laidLooks := .later }
def SymbolValidUptoCardSaid : Prop := Claim7.holds Tryz.pinned (.plain (OpenSpec.upto symbolValidSpec)) symbolValidUptoCard

/-- THE SECOND FORM's CARD OF 'quadformlaw26.SymbolSums'. -/
def symbolSumsUptoCard : Claim7 := { stood := { row := symbolSumsUptoRow, standIns := [], harness := (true, "ec6d34a92c32c96c9bf0fde0e9d836f98ded463850e758ff121bea9503ea908d"), looks := false }, kinds := [], alts := [], laidByText := true, laidKinds := [.data, .data, .data, .data], laidTests := true, laidLooks := .later }
def SymbolSumsUptoCardSaid : Prop := Claim7.holds Tryz.pinned (.plain (OpenSpec.upto symbolSumsSpec)) symbolSumsUptoCard

/-- THE SECOND FORM's CARD OF 'quadformlaw26.SymbolCompare'. -/
def symbolCompareUptoCard : Claim7 := { stood := { row := symbolCompareUptoRow, standIns := [], harness := (true, "ec6d34a92c32c96c9bf0fde0e9d836f98ded463850e758ff121bea9503ea908d"), looks := false }, kinds := [], alts := [], laidByText := true, laidKinds := [.data, .data, .data, .data], laidTests := true, laidLooks := .later }
def SymbolCompareUptoCardSaid : Prop := Claim7.holds Tryz.pinned (.plain (OpenSpec.upto symbolCompareSpec)) symbolCompareUptoCard
end Rows
end Go.Proofs.YtbjfdfjmclggkaaGreatDoor
