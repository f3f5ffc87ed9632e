/-
  DERIVED. GIVEN WITH THE SEED: THE CARDS: each row of YtejmmglffmckeaaGreatDoorRows.lean that lists a variable, with what it lists TIED to the program's text (the seventh form; the later family's looks); each row that meets fmt, with fmt's text TOLD by the authors' own Lean function (tested against real Go, not proved from fmt's source: count such statements apart). THE CARD IS WHAT COUNTS. Prove the row's statement (the work); the ties are given (YtejmmglffmckeaaGreatDoorTie.lean); close each card by the builder's one call (the guide's Derived/Test/ToyasCard.lean, 'card_holds'). Laid BY PROGRAM, IN A SANDBOX (cutbox-door.mjs). By AI agents, Wed Nov 11 2026. No macro, syntax, notation, axiom, sorry.
-/
import Derived.Test.YtejmmglffmckeaaGreatDoorRows
import GoSem.ClaimSeven
namespace Go.Proofs.YtejmmglffmckeaaGreatDoor
namespace Rows

/-- THE TIED CARD OF 'quadformlaw26.SymbolValid'. -/
def symbolValidCard : Claim7 := { stood := { row := symbolValidRow, standIns := [], harness := (true, "27748c99f05b16d5aef51529f3cd30e6785e5f940c878ebeb0d088c344a8e751"), looks := true }, kinds := [], alts := [], laidByText := true, laidKinds := [.data, .data, .data, .data], laidTests := true, laidLooks := .later }
def SymbolValidCardSaid : Prop := Claim7.holds Tryz.pinned (.plain (OpenSpec.ofChange symbolValidSpec)) symbolValidCard

/-- THE TIED CARD OF 'quadformlaw26.SymbolOf'. -/
def symbolOfCard : Claim7 := { stood := { row := symbolOfRow, standIns := [], harness := (true, "27748c99f05b16d5aef51529f3cd30e6785e5f940c878ebeb0d088c344a8e751"), looks := true }, kinds := [], alts := [], laidByText := true, laidKinds := [.data, .data, .data, .data], laidTests := true, laidLooks := .later }
def SymbolOfCardSaid : Prop := Claim7.holds Tryz.pinned (.plain (OpenSpec.ofChange symbolOfSpec)) symbolOfCard

/-- THE TIED CARD OF 'quadformlaw26.SymbolInvariant'. -/
def symbolInvariantCard : Claim7 := { stood := { row := symbolInvariantRow, standIns := [], harness := (true, "27748c99f05b16d5aef51529f3cd30e6785e5f940c878ebeb0d088c344a8e751"), looks := true }, kinds := [], alts := [], laidByText := true, laidKinds := [.data, .data, .data, .data], laidTests := true, laidLooks := .later }
def SymbolInvariantCardSaid : Prop := Claim7.holds Tryz.pinned (.plain (OpenSpec.ofChange symbolInvariantSpec)) symbolInvariantCard

/-- THE TIED CARD OF 'quadformlaw26.SymbolExcess'. -/
def symbolExcessCard : Claim7 := { stood := { row := symbolExcessRow, standIns := [], harness := (true, "27748c99f05b16d5aef51529f3cd30e6785e5f940c878ebeb0d088c344a8e751"), looks := true }, kinds := [], alts := [], laidByText := true, laidKinds := [.data, .data, .data, .data], laidTests := true, laidLooks := .later }
def SymbolExcessCardSaid : Prop := Claim7.holds Tryz.pinned (.plain (OpenSpec.ofChange symbolExcessSpec)) symbolExcessCard

/-- THE TIED CARD OF 'quadformlaw26.SymbolScale'. -/
def symbolScaleCard : Claim7 := { stood := { row := symbolScaleRow, standIns := [], harness := (true, "27748c99f05b16d5aef51529f3cd30e6785e5f940c878ebeb0d088c344a8e751"), looks := true }, kinds := [], alts := [], laidByText := true, laidKinds := [.data, .data, .data, .data], laidTests := true, laidLooks := .later }
def SymbolScaleCardSaid : Prop := Claim7.holds Tryz.pinned (.plain (OpenSpec.ofChange symbolScaleSpec)) symbolScaleCard

/-- THE TIED CARD OF 'quadformlaw26.SymbolSum'. -/
def symbolSumCard : Claim7 := { stood := { row := symbolSumRow, standIns := [], harness := (true, "27748c99f05b16d5aef51529f3cd30e6785e5f940c878ebeb0d088c344a8e751"), looks := true }, kinds := [], alts := [], laidByText := true, laidKinds := [.data, .data, .data, .data], laidTests := true, laidLooks := .later }
def SymbolSumCardSaid : Prop := Claim7.holds Tryz.pinned (.plain (OpenSpec.ofChange symbolSumSpec)) symbolSumCard

/-- THE TIED CARD OF 'quadformlaw26.SymbolSums'. -/
def symbolSumsCard : Claim7 := { stood := { row := symbolSumsRow, standIns := [], harness := (true, "27748c99f05b16d5aef51529f3cd30e6785e5f940c878ebeb0d088c344a8e751"), looks := true }, kinds := [], alts := [], laidByText := true, laidKinds := [.data, .data, .data, .data], laidTests := true, laidLooks := .later }
def SymbolSumsCardSaid : Prop := Claim7.holds Tryz.pinned (.plain (OpenSpec.ofChange symbolSumsSpec)) symbolSumsCard

/-- THE TIED CARD OF 'quadformlaw26.SymbolForms'. -/
def symbolFormsCard : Claim7 := { stood := { row := symbolFormsRow, standIns := [], harness := (true, "27748c99f05b16d5aef51529f3cd30e6785e5f940c878ebeb0d088c344a8e751"), looks := true }, kinds := [], alts := [], laidByText := true, laidKinds := [.data, .data, .data, .data], laidTests := true, laidLooks := .later }
def SymbolFormsCardSaid : Prop := Claim7.holds Tryz.pinned (.plain (OpenSpec.ofChange symbolFormsSpec)) symbolFormsCard

/-- THE TIED CARD OF 'quadformlaw26.SymbolCompare'. -/
def symbolCompareCard : Claim7 := { stood := { row := symbolCompareRow, standIns := [], harness := (true, "27748c99f05b16d5aef51529f3cd30e6785e5f940c878ebeb0d088c344a8e751"), looks := true }, kinds := [], alts := [], laidByText := true, laidKinds := [.data, .data, .data, .data], laidTests := true, laidLooks := .later }
def SymbolCompareCardSaid : Prop := Claim7.holds Tryz.pinned (.plain (OpenSpec.ofChange symbolCompareSpec)) symbolCompareCard

/-- THE TIED CARD OF 'quadformlaw26.SymbolFormat'. -/
def symbolFormatCard : Claim7 := { stood := { row := symbolFormatRow, standIns := [], harness := (true, "27748c99f05b16d5aef51529f3cd30e6785e5f940c878ebeb0d088c344a8e751"), looks := true }, kinds := [], alts := [], laidByText := true, laidKinds := [.data, .data, .data, .data, .sentinel, .sentinel, .data, .pinned], laidTests := true, laidLooks := .later }
def SymbolFormatCardSaid : Prop := Claim7.holds Tryz.pinned (.plain (OpenSpec.ofChange symbolFormatSpec)) symbolFormatCard

/-- THE TIED CARD OF 'quadformlaw26.SymbolParse'. -/
def symbolParseCard : Claim7 := { stood := { row := symbolParseRow, standIns := [], harness := (true, "27748c99f05b16d5aef51529f3cd30e6785e5f940c878ebeb0d088c344a8e751"), looks := true }, kinds := [], alts := [], laidByText := true, laidKinds := [.data, .data, .data, .data, .sentinel, .sentinel, .data, .pinned], laidTests := true, laidLooks := .later }
def SymbolParseCardSaid : Prop := Claim7.holds Tryz.pinned (.plain (OpenSpec.ofChange symbolParseSpec)) symbolParseCard

/-- THE SECOND FORM's CARD OF 'quadformlaw26.SymbolValid'. -/
def symbolValidUptoCard : Claim7 := { stood := { row := symbolValidUptoRow, standIns := [], harness := (true, "27748c99f05b16d5aef51529f3cd30e6785e5f940c878ebeb0d088c344a8e751"), looks := true }, kinds := [], alts := [], laidByText := true, laidKinds := [.data, .data, .data, .data], laidTests := true, laidLooks := .later }
def SymbolValidUptoCardSaid : Prop := Claim7.holds Tryz.pinned (.plain (OpenSpec.upto symbolValidSpec)) symbolValidUptoCard

/-- THE SECOND FORM's CARD OF 'quadformlaw26.SymbolOf'. -/
def symbolOfUptoCard : Claim7 := { stood := { row := symbolOfUptoRow, standIns := [], harness := (true, "27748c99f05b16d5aef51529f3cd30e6785e5f940c878ebeb0d088c344a8e751"), looks := true }, kinds := [], alts := [], laidByText := true, laidKinds := [.data, .data, .data, .data], laidTests := true, laidLooks := .later }
def SymbolOfUptoCardSaid : Prop := Claim7.holds Tryz.pinned (.plain (OpenSpec.upto symbolOfSpec)) symbolOfUptoCard

/-- THE SECOND FORM's CARD OF 'quadformlaw26.SymbolInvariant'. -/
def symbolInvariantUptoCard : Claim7 := { stood := { row := symbolInvariantUptoRow, standIns := [], harness := (true, "27748c99f05b16d5aef51529f3cd30e6785e5f940c878ebeb0d088c344a8e751"), looks := true }, kinds := [], alts := [], laidByText := true, laidKinds := [.data, .data, .data, .data], laidTests := true, laidLooks := .later }
def SymbolInvariantUptoCardSaid : Prop := Claim7.holds Tryz.pinned (.plain (OpenSpec.upto symbolInvariantSpec)) symbolInvariantUptoCard

/-- THE SECOND FORM's CARD OF 'quadformlaw26.SymbolExcess'. -/
def symbolExcessUptoCard : Claim7 := { stood := { row := symbolExcessUptoRow, standIns := [], harness := (true, "27748c99f05b16d5aef51529f3cd30e6785e5f940c878ebeb0d088c344a8e751"), looks := true }, kinds := [], alts := [], laidByText := true, laidKinds := [.data, .data, .data, .data], laidTests := true, laidLooks := .later }
def SymbolExcessUptoCardSaid : Prop := Claim7.holds Tryz.pinned (.plain (OpenSpec.upto symbolExcessSpec)) symbolExcessUptoCard

/-- THE SECOND FORM's CARD OF 'quadformlaw26.SymbolScale'. -/
def symbolScaleUptoCard : Claim7 := { stood := { row := symbolScaleUptoRow, standIns := [], harness := (true, "27748c99f05b16d5aef51529f3cd30e6785e5f940c878ebeb0d088c344a8e751"), looks := true }, kinds := [], alts := [], laidByText := true, laidKinds := [.data, .data, .data, .data], laidTests := true, laidLooks := .later }
def SymbolScaleUptoCardSaid : Prop := Claim7.holds Tryz.pinned (.plain (OpenSpec.upto symbolScaleSpec)) symbolScaleUptoCard

/-- THE SECOND FORM's CARD OF 'quadformlaw26.SymbolSum'. -/
def symbolSumUptoCard : Claim7 := { stood := { row := symbolSumUptoRow, standIns := [], harness := (true, "27748c99f05b16d5aef51529f3cd30e6785e5f940c878ebeb0d088c344a8e751"), looks := true }, kinds := [], alts := [], laidByText := true, laidKinds := [.data, .data, .data, .data], laidTests := true, laidLooks := .later }
def SymbolSumUptoCardSaid : Prop := Claim7.holds Tryz.pinned (.plain (OpenSpec.upto symbolSumSpec)) symbolSumUptoCard

/-- THE SECOND FORM's CARD OF 'quadformlaw26.SymbolSums'. -/
def symbolSumsUptoCard : Claim7 := { stood := { row := symbolSumsUptoRow, standIns := [], harness := (true, "27748c99f05b16d5aef51529f3cd30e6785e5f940c878ebeb0d088c344a8e751"), looks := true }, kinds := [], alts := [], laidByText := true, laidKinds := [.data, .data, .data, .data], laidTests := true, laidLooks := .later }
def SymbolSumsUptoCardSaid : Prop := Claim7.holds Tryz.pinned (.plain (OpenSpec.upto symbolSumsSpec)) symbolSumsUptoCard

/-- THE SECOND FORM's CARD OF 'quadformlaw26.SymbolForms'. -/
def symbolFormsUptoCard : Claim7 := { stood := { row := symbolFormsUptoRow, standIns := [], harness := (true, "27748c99f05b16d5aef51529f3cd30e6785e5f940c878ebeb0d088c344a8e751"), looks := true }, kinds := [], alts := [], laidByText := true, laidKinds := [.data, .data, .data, .data], laidTests := true, laidLooks := .later }
def SymbolFormsUptoCardSaid : Prop := Claim7.holds Tryz.pinned (.plain (OpenSpec.upto symbolFormsSpec)) symbolFormsUptoCard

/-- THE SECOND FORM's CARD OF 'quadformlaw26.SymbolCompare'. -/
def symbolCompareUptoCard : Claim7 := { stood := { row := symbolCompareUptoRow, standIns := [], harness := (true, "27748c99f05b16d5aef51529f3cd30e6785e5f940c878ebeb0d088c344a8e751"), looks := true }, kinds := [], alts := [], laidByText := true, laidKinds := [.data, .data, .data, .data], laidTests := true, laidLooks := .later }
def SymbolCompareUptoCardSaid : Prop := Claim7.holds Tryz.pinned (.plain (OpenSpec.upto symbolCompareSpec)) symbolCompareUptoCard

/-- THE SECOND FORM's CARD OF 'quadformlaw26.SymbolFormat'. -/
def symbolFormatUptoCard : Claim7 := { stood := { row := symbolFormatUptoRow, standIns := [], harness := (true, "27748c99f05b16d5aef51529f3cd30e6785e5f940c878ebeb0d088c344a8e751"), looks := true }, kinds := [], alts := [], laidByText := true, laidKinds := [.data, .data, .data, .data, .sentinel, .sentinel, .data, .pinned], laidTests := true, laidLooks := .later }
def SymbolFormatUptoCardSaid : Prop := Claim7.holds Tryz.pinned (.plain (OpenSpec.upto symbolFormatSpec)) symbolFormatUptoCard

/-- THE SECOND FORM's CARD OF 'quadformlaw26.SymbolParse'. -/
def symbolParseUptoCard : Claim7 := { stood := { row := symbolParseUptoRow, standIns := [], harness := (true, "27748c99f05b16d5aef51529f3cd30e6785e5f940c878ebeb0d088c344a8e751"), looks := true }, kinds := [], alts := [], laidByText := true, laidKinds := [.data, .data, .data, .data, .sentinel, .sentinel, .data, .pinned], laidTests := true, laidLooks := .later }
def SymbolParseUptoCardSaid : Prop := Claim7.holds Tryz.pinned (.plain (OpenSpec.upto symbolParseSpec)) symbolParseUptoCard
end Rows
end Go.Proofs.YtejmmglffmckeaaGreatDoor
