/-
  DERIVED. GIVEN WITH THE SEED: THE CARDS: each row of YtgdhgnhgmbkpdaaGreatDoorRows.lean that lists a variable, with what it lists TIED to the program's text (the seventh form; the later family's looks); each row that meets fmt, with fmt's text TOLD by the authors' own Lean function (tested against real Go, not proved from fmt's source: count such statements apart). THE CARD IS WHAT COUNTS. Prove the row's statement (the work); the ties are given (YtgdhgnhgmbkpdaaGreatDoorTie.lean); close each card by the builder's one call (the guide's Derived/Test/ToyasCard.lean, 'card_holds'). Laid BY PROGRAM, IN A SANDBOX (cutbox-door.mjs). By AI agents, Wed Nov 11 2026. No macro, syntax, notation, axiom, sorry.
-/
import Derived.Test.YtgdhgnhgmbkpdaaGreatDoorRows
import GoSem.ClaimSeven
namespace Go.Proofs.YtgdhgnhgmbkpdaaGreatDoor
namespace Rows

/-- THE TIED CARD OF 'quadformlaw26.SymbolFormat'. -/
def symbolFormatCard : Claim7 := { stood := { row := symbolFormatRow, standIns := [], harness := (true, "8d30ff570db5c41da5217f8d6fcea166f40d0bac30b59218781a2d6dc5c8128f"), looks := true }, kinds := [], alts := [], laidByText := true, laidKinds := [.data, .data, .data, .data, .sentinel, .sentinel, .data, .pinned], laidTests := true, laidLooks := .later }
def SymbolFormatCardSaid : Prop := Claim7.holds Tryz.pinned (.plain (OpenSpec.ofChange symbolFormatSpec)) symbolFormatCard

/-- THE TIED CARD OF 'quadformlaw26.SymbolParse'. -/
def symbolParseCard : Claim7 := { stood := { row := symbolParseRow, standIns := [], harness := (true, "8d30ff570db5c41da5217f8d6fcea166f40d0bac30b59218781a2d6dc5c8128f"), looks := true }, kinds := [], alts := [], laidByText := true, laidKinds := [.data, .data, .data, .data, .sentinel, .sentinel, .data, .pinned], laidTests := true, laidLooks := .later }
def SymbolParseCardSaid : Prop := Claim7.holds Tryz.pinned (.plain (OpenSpec.ofChange symbolParseSpec)) symbolParseCard

/-- THE TIED CARD OF 'quadformlaw27.TrainFormat'. -/
def trainFormatCard : Claim7 := { stood := { row := trainFormatRow, standIns := [], harness := (true, "8d30ff570db5c41da5217f8d6fcea166f40d0bac30b59218781a2d6dc5c8128f"), looks := true }, kinds := [], alts := [], laidByText := true, laidKinds := [.data, .data, .data, .data, .sentinel, .sentinel, .data, .pinned], laidTests := true, laidLooks := .later }
def TrainFormatCardSaid : Prop := Claim7.holds Tryz.pinned (.plain (OpenSpec.ofChange trainFormatSpec)) trainFormatCard

/-- THE TIED CARD OF 'quadformlaw27.TrainParse'. -/
def trainParseCard : Claim7 := { stood := { row := trainParseRow, standIns := [], harness := (true, "8d30ff570db5c41da5217f8d6fcea166f40d0bac30b59218781a2d6dc5c8128f"), looks := true }, kinds := [], alts := [], laidByText := true, laidKinds := [.data, .data, .data, .data, .sentinel, .sentinel, .data, .pinned], laidTests := true, laidLooks := .later }
def TrainParseCardSaid : Prop := Claim7.holds Tryz.pinned (.plain (OpenSpec.ofChange trainParseSpec)) trainParseCard

/-- THE SECOND FORM's CARD OF 'quadformlaw26.SymbolFormat'. -/
def symbolFormatUptoCard : Claim7 := { stood := { row := symbolFormatUptoRow, standIns := [], harness := (true, "8d30ff570db5c41da5217f8d6fcea166f40d0bac30b59218781a2d6dc5c8128f"), looks := true }, kinds := [], alts := [], laidByText := true, laidKinds := [.data, .data, .data, .data, .sentinel, .sentinel, .data, .pinned], laidTests := true, laidLooks := .later }
def SymbolFormatUptoCardSaid : Prop := Claim7.holds Tryz.pinned (.plain (OpenSpec.upto symbolFormatSpec)) symbolFormatUptoCard

/-- THE SECOND FORM's CARD OF 'quadformlaw26.SymbolParse'. -/
def symbolParseUptoCard : Claim7 := { stood := { row := symbolParseUptoRow, standIns := [], harness := (true, "8d30ff570db5c41da5217f8d6fcea166f40d0bac30b59218781a2d6dc5c8128f"), looks := true }, kinds := [], alts := [], laidByText := true, laidKinds := [.data, .data, .data, .data, .sentinel, .sentinel, .data, .pinned], laidTests := true, laidLooks := .later }
def SymbolParseUptoCardSaid : Prop := Claim7.holds Tryz.pinned (.plain (OpenSpec.upto symbolParseSpec)) symbolParseUptoCard

/-- THE SECOND FORM's CARD OF 'quadformlaw27.TrainFormat'. -/
def trainFormatUptoCard : Claim7 := { stood := { row := trainFormatUptoRow, standIns := [], harness := (true, "8d30ff570db5c41da5217f8d6fcea166f40d0bac30b59218781a2d6dc5c8128f"), looks := true }, kinds := [], alts := [], laidByText := true, laidKinds := [.data, .data, .data, .data, .sentinel, .sentinel, .data, .pinned], laidTests := true, laidLooks := .later }
def TrainFormatUptoCardSaid : Prop := Claim7.holds Tryz.pinned (.plain (OpenSpec.upto trainFormatSpec)) trainFormatUptoCard

/-- THE SECOND FORM's CARD OF 'quadformlaw27.TrainParse'. -/
def trainParseUptoCard : Claim7 := { stood := { row := trainParseUptoRow, standIns := [], harness := (true, "8d30ff570db5c41da5217f8d6fcea166f40d0bac30b59218781a2d6dc5c8128f"), looks := true }, kinds := [], alts := [], laidByText := true, laidKinds := [.data, .data, .data, .data, .sentinel, .sentinel, .data, .pinned], laidTests := true, laidLooks := .later }
def TrainParseUptoCardSaid : Prop := Claim7.holds Tryz.pinned (.plain (OpenSpec.upto trainParseSpec)) trainParseUptoCard
end Rows
end Go.Proofs.YtgdhgnhgmbkpdaaGreatDoor
