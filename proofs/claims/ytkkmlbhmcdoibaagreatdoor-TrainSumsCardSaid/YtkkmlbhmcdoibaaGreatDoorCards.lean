/-
  DERIVED. GIVEN WITH THE SEED: THE CARDS: each row of YtkkmlbhmcdoibaaGreatDoorRows.lean that lists a variable, with what it lists TIED to the program's text (the seventh form; the later family's looks); each row that meets fmt, with fmt's text TOLD by the authors' own Lean function (tested against real Go, not proved from fmt's source: count such statements apart). THE CARD IS WHAT COUNTS. Prove the row's statement (the work); the ties are given (YtkkmlbhmcdoibaaGreatDoorTie.lean); close each card by the builder's one call (the guide's Derived/Test/ToyasCard.lean, 'card_holds'). Laid BY PROGRAM, IN A SANDBOX (cutbox-door.mjs). By AI agents, Wed Nov 11 2026. No macro, syntax, notation, axiom, sorry.
-/
import Derived.Test.YtkkmlbhmcdoibaaGreatDoorRows
import GoSem.ClaimSeven
namespace Go.Proofs.YtkkmlbhmcdoibaaGreatDoor
namespace Rows

/-- THE TIED CARD OF 'quadformlaw27.TrainLegalForms'. -/
def trainLegalFormsCard : Claim7 := { stood := { row := trainLegalFormsRow, standIns := [], harness := (true, "241b21768985bf778244606bccefb5a206ce169069a14debc9c809b654f8a841"), looks := false }, kinds := [], alts := [], laidByText := true, laidKinds := [.data, .data, .data, .data], laidTests := true, laidLooks := .later }
def TrainLegalFormsCardSaid : Prop := Claim7.holds Tryz.pinned (.plain (OpenSpec.ofChange trainLegalFormsSpec)) trainLegalFormsCard

/-- THE TIED CARD OF 'quadformlaw27.TrainSum'. -/
def trainSumCard : Claim7 := { stood := { row := trainSumRow, standIns := [], harness := (true, "241b21768985bf778244606bccefb5a206ce169069a14debc9c809b654f8a841"), looks := false }, kinds := [], alts := [], laidByText := true, laidKinds := [.data, .data, .data, .data], laidTests := true, laidLooks := .later }
def TrainSumCardSaid : Prop := Claim7.holds Tryz.pinned (.plain (OpenSpec.ofChange trainSumSpec)) trainSumCard

/-- THE TIED CARD OF 'quadformlaw27.TrainSums'. -/
def trainSumsCard : Claim7 := { stood := { row := trainSumsRow, standIns := [], harness := (true, "241b21768985bf778244606bccefb5a206ce169069a14debc9c809b654f8a841"), looks := false }, kinds := [], alts := [], laidByText := true, laidKinds := [.data, .data, .data, .data], laidTests := true, laidLooks := .later }
def TrainSumsCardSaid : Prop := Claim7.holds Tryz.pinned (.plain (OpenSpec.ofChange trainSumsSpec)) trainSumsCard

/-- THE SECOND FORM's CARD OF 'quadformlaw27.TrainLegalForms'. -/
def trainLegalFormsUptoCard : Claim7 := { stood := { row := trainLegalFormsUptoRow, standIns := [], harness := (true, "241b21768985bf778244606bccefb5a206ce169069a14debc9c809b654f8a841"), looks := false }, kinds := [], alts := [], laidByText := true, laidKinds := [.data, .data, .data, .data], laidTests := true, laidLooks := .later }
def TrainLegalFormsUptoCardSaid : Prop := Claim7.holds Tryz.pinned (.plain (OpenSpec.upto trainLegalFormsSpec)) trainLegalFormsUptoCard

/-- THE SECOND FORM's CARD OF 'quadformlaw27.TrainSum'. -/
def trainSumUptoCard : Claim7 := { stood := { row := trainSumUptoRow, standIns := [], harness := (true, "241b21768985bf778244606bccefb5a206ce169069a14debc9c809b654f8a841"), looks := false }, kinds := [], alts := [], laidByText := true, laidKinds := [.data, .data, .data, .data], laidTests := true, laidLooks := .later }
def TrainSumUptoCardSaid : Prop := Claim7.holds Tryz.pinned (.plain (OpenSpec.upto trainSumSpec)) trainSumUptoCard

/-- THE SECOND FORM's CARD OF 'quadformlaw27.TrainSums'. -/
def trainSumsUptoCard : Claim7 := { stood := { row := trainSumsUptoRow, standIns := [], harness := (true, "241b21768985bf778244606bccefb5a206ce169069a14debc9c809b654f8a841"), looks := false }, kinds := [], alts := [], laidByText := true, laidKinds := [.data, .data, .data, .data], laidTests := true, laidLooks := .later }
def TrainSumsUptoCardSaid : Prop := Claim7.holds Tryz.pinned (.plain (OpenSpec.upto trainSumsSpec)) trainSumsUptoCard
end Rows
end Go.Proofs.YtkkmlbhmcdoibaaGreatDoor
