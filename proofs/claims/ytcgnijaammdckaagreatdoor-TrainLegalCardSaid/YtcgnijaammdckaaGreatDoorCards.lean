/-
  DERIVED. GIVEN WITH THE SEED: THE CARDS: each row of YtcgnijaammdckaaGreatDoorRows.lean that lists a variable, with what it lists TIED to the program's text (the seventh form; the later family's looks); each row that meets fmt, with fmt's text TOLD by the authors' own Lean function (tested against real Go, not proved from fmt's source: count such statements apart). THE CARD IS WHAT COUNTS. Prove the row's statement (the work); the ties are given (YtcgnijaammdckaaGreatDoorTie.lean); close each card by the builder's one call (the guide's Derived/Test/ToyasCard.lean, 'card_holds'). Laid BY PROGRAM, IN A SANDBOX (cutbox-door.mjs). By AI agents, Wed Nov 11 2026. No macro, syntax, notation, axiom, sorry.
-/
import Derived.Test.YtcgnijaammdckaaGreatDoorRows
import GoSem.ClaimSeven
namespace Go.Proofs.YtcgnijaammdckaaGreatDoor
namespace Rows

/-- THE TIED CARD OF 'quadformlaw27.TrainLegal'. -/
def trainLegalCard : Claim7 := { stood := { row := trainLegalRow, standIns := [], harness := (true, "0ae1ad1bafd0d98208d3b5191f8e512b037f72842a26528361859fa7280c3b19"), looks := false }, kinds := [], alts := [], laidByText := true, laidKinds := [.data, .data, .data, .data], laidTests := true, laidLooks := .later }
def TrainLegalCardSaid : Prop := Claim7.holds Tryz.pinned (.plain (OpenSpec.ofChange trainLegalSpec)) trainLegalCard

/-- THE TIED CARD OF 'quadformlaw27.TrainLegalForms'. -/
def trainLegalFormsCard : Claim7 := { stood := { row := trainLegalFormsRow, standIns := [], harness := (true, "0ae1ad1bafd0d98208d3b5191f8e512b037f72842a26528361859fa7280c3b19"), looks := false }, kinds := [], alts := [], laidByText := true, laidKinds := [.data, .data, .data, .data], laidTests := true, laidLooks := .later }
def TrainLegalFormsCardSaid : Prop := Claim7.holds Tryz.pinned (.plain (OpenSpec.ofChange trainLegalFormsSpec)) trainLegalFormsCard

/-- THE TIED CARD OF 'quadformlaw27.TrainFuse'. -/
def trainFuseCard : Claim7 := { stood := { row := trainFuseRow, standIns := [], harness := (true, "0ae1ad1bafd0d98208d3b5191f8e512b037f72842a26528361859fa7280c3b19"), looks := false }, kinds := [], alts := [], laidByText := true, laidKinds := [.data, .data, .data, .data], laidTests := true, laidLooks := .later }
def TrainFuseCardSaid : Prop := Claim7.holds Tryz.pinned (.plain (OpenSpec.ofChange trainFuseSpec)) trainFuseCard

/-- THE TIED CARD OF 'quadformlaw27.TrainCanonical'. -/
def trainCanonicalCard : Claim7 := { stood := { row := trainCanonicalRow, standIns := [], harness := (true, "0ae1ad1bafd0d98208d3b5191f8e512b037f72842a26528361859fa7280c3b19"), looks := false }, kinds := [], alts := [], laidByText := true, laidKinds := [.data, .data, .data, .data], laidTests := true, laidLooks := .later }
def TrainCanonicalCardSaid : Prop := Claim7.holds Tryz.pinned (.plain (OpenSpec.ofChange trainCanonicalSpec)) trainCanonicalCard

/-- THE TIED CARD OF 'quadformlaw27.TrainWalk'. -/
def trainWalkCard : Claim7 := { stood := { row := trainWalkRow, standIns := [], harness := (true, "0ae1ad1bafd0d98208d3b5191f8e512b037f72842a26528361859fa7280c3b19"), looks := false }, kinds := [], alts := [], laidByText := true, laidKinds := [.data, .data, .data, .data], laidTests := true, laidLooks := .later }
def TrainWalkCardSaid : Prop := Claim7.holds Tryz.pinned (.plain (OpenSpec.ofChange trainWalkSpec)) trainWalkCard

/-- THE TIED CARD OF 'quadformlaw27.TrainOddity'. -/
def trainOddityCard : Claim7 := { stood := { row := trainOddityRow, standIns := [], harness := (true, "0ae1ad1bafd0d98208d3b5191f8e512b037f72842a26528361859fa7280c3b19"), looks := false }, kinds := [], alts := [], laidByText := true, laidKinds := [.data, .data, .data, .data], laidTests := true, laidLooks := .later }
def TrainOddityCardSaid : Prop := Claim7.holds Tryz.pinned (.plain (OpenSpec.ofChange trainOdditySpec)) trainOddityCard

/-- THE TIED CARD OF 'quadformlaw27.TrainParts'. -/
def trainPartsCard : Claim7 := { stood := { row := trainPartsRow, standIns := [], harness := (true, "0ae1ad1bafd0d98208d3b5191f8e512b037f72842a26528361859fa7280c3b19"), looks := false }, kinds := [], alts := [], laidByText := true, laidKinds := [.data, .data, .data, .data], laidTests := true, laidLooks := .later }
def TrainPartsCardSaid : Prop := Claim7.holds Tryz.pinned (.plain (OpenSpec.ofChange trainPartsSpec)) trainPartsCard

/-- THE TIED CARD OF 'quadformlaw27.TrainCovers'. -/
def trainCoversCard : Claim7 := { stood := { row := trainCoversRow, standIns := [], harness := (true, "0ae1ad1bafd0d98208d3b5191f8e512b037f72842a26528361859fa7280c3b19"), looks := false }, kinds := [], alts := [], laidByText := true, laidKinds := [.data, .data, .data, .data], laidTests := true, laidLooks := .later }
def TrainCoversCardSaid : Prop := Claim7.holds Tryz.pinned (.plain (OpenSpec.ofChange trainCoversSpec)) trainCoversCard

/-- THE TIED CARD OF 'quadformlaw27.TrainWalks'. -/
def trainWalksCard : Claim7 := { stood := { row := trainWalksRow, standIns := [], harness := (true, "0ae1ad1bafd0d98208d3b5191f8e512b037f72842a26528361859fa7280c3b19"), looks := false }, kinds := [], alts := [], laidByText := true, laidKinds := [.data, .data, .data, .data], laidTests := true, laidLooks := .later }
def TrainWalksCardSaid : Prop := Claim7.holds Tryz.pinned (.plain (OpenSpec.ofChange trainWalksSpec)) trainWalksCard

/-- THE TIED CARD OF 'quadformlaw27.TrainRefine'. -/
def trainRefineCard : Claim7 := { stood := { row := trainRefineRow, standIns := [], harness := (true, "0ae1ad1bafd0d98208d3b5191f8e512b037f72842a26528361859fa7280c3b19"), looks := false }, kinds := [], alts := [], laidByText := true, laidKinds := [.data, .data, .data, .data], laidTests := true, laidLooks := .later }
def TrainRefineCardSaid : Prop := Claim7.holds Tryz.pinned (.plain (OpenSpec.ofChange trainRefineSpec)) trainRefineCard

/-- THE TIED CARD OF 'quadformlaw27.TrainRefines'. -/
def trainRefinesCard : Claim7 := { stood := { row := trainRefinesRow, standIns := [], harness := (true, "0ae1ad1bafd0d98208d3b5191f8e512b037f72842a26528361859fa7280c3b19"), looks := false }, kinds := [], alts := [], laidByText := true, laidKinds := [.data, .data, .data, .data], laidTests := true, laidLooks := .later }
def TrainRefinesCardSaid : Prop := Claim7.holds Tryz.pinned (.plain (OpenSpec.ofChange trainRefinesSpec)) trainRefinesCard

/-- THE TIED CARD OF 'quadformlaw27.TrainOrbit'. -/
def trainOrbitCard : Claim7 := { stood := { row := trainOrbitRow, standIns := [], harness := (true, "0ae1ad1bafd0d98208d3b5191f8e512b037f72842a26528361859fa7280c3b19"), looks := false }, kinds := [], alts := [], laidByText := true, laidKinds := [.data, .data, .data, .data], laidTests := true, laidLooks := .later }
def TrainOrbitCardSaid : Prop := Claim7.holds Tryz.pinned (.plain (OpenSpec.ofChange trainOrbitSpec)) trainOrbitCard

/-- THE SECOND FORM's CARD OF 'quadformlaw27.TrainLegal'. -/
def trainLegalUptoCard : Claim7 := { stood := { row := trainLegalUptoRow, standIns := [], harness := (true, "0ae1ad1bafd0d98208d3b5191f8e512b037f72842a26528361859fa7280c3b19"), looks := false }, kinds := [], alts := [], laidByText := true, laidKinds := [.data, .data, .data, .data], laidTests := true, laidLooks := .later }
def TrainLegalUptoCardSaid : Prop := Claim7.holds Tryz.pinned (.plain (OpenSpec.upto trainLegalSpec)) trainLegalUptoCard

/-- THE SECOND FORM's CARD OF 'quadformlaw27.TrainLegalForms'. -/
def trainLegalFormsUptoCard : Claim7 := { stood := { row := trainLegalFormsUptoRow, standIns := [], harness := (true, "0ae1ad1bafd0d98208d3b5191f8e512b037f72842a26528361859fa7280c3b19"), looks := false }, kinds := [], alts := [], laidByText := true, laidKinds := [.data, .data, .data, .data], laidTests := true, laidLooks := .later }
def TrainLegalFormsUptoCardSaid : Prop := Claim7.holds Tryz.pinned (.plain (OpenSpec.upto trainLegalFormsSpec)) trainLegalFormsUptoCard

/-- THE SECOND FORM's CARD OF 'quadformlaw27.TrainFuse'. -/
def trainFuseUptoCard : Claim7 := { stood := { row := trainFuseUptoRow, standIns := [], harness := (true, "0ae1ad1bafd0d98208d3b5191f8e512b037f72842a26528361859fa7280c3b19"), looks := false }, kinds := [], alts := [], laidByText := true, laidKinds := [.data, .data, .data, .data], laidTests := true, laidLooks := .later }
def TrainFuseUptoCardSaid : Prop := Claim7.holds Tryz.pinned (.plain (OpenSpec.upto trainFuseSpec)) trainFuseUptoCard

/-- THE SECOND FORM's CARD OF 'quadformlaw27.TrainCanonical'. -/
def trainCanonicalUptoCard : Claim7 := { stood := { row := trainCanonicalUptoRow, standIns := [], harness := (true, "0ae1ad1bafd0d98208d3b5191f8e512b037f72842a26528361859fa7280c3b19"), looks := false }, kinds := [], alts := [], laidByText := true, laidKinds := [.data, .data, .data, .data], laidTests := true, laidLooks := .later }
def TrainCanonicalUptoCardSaid : Prop := Claim7.holds Tryz.pinned (.plain (OpenSpec.upto trainCanonicalSpec)) trainCanonicalUptoCard

/-- THE SECOND FORM's CARD OF 'quadformlaw27.TrainWalk'. -/
def trainWalkUptoCard : Claim7 := { stood := { row := trainWalkUptoRow, standIns := [], harness := (true, "0ae1ad1bafd0d98208d3b5191f8e512b037f72842a26528361859fa7280c3b19"), looks := false }, kinds := [], alts := [], laidByText := true, laidKinds := [.data, .data, .data, .data], laidTests := true, laidLooks := .later }
def TrainWalkUptoCardSaid : Prop := Claim7.holds Tryz.pinned (.plain (OpenSpec.upto trainWalkSpec)) trainWalkUptoCard

/-- THE SECOND FORM's CARD OF 'quadformlaw27.TrainOddity'. -/
def trainOddityUptoCard : Claim7 := { stood := { row := trainOddityUptoRow, standIns := [], harness := (true, "0ae1ad1bafd0d98208d3b5191f8e512b037f72842a26528361859fa7280c3b19"), looks := false }, kinds := [], alts := [], laidByText := true, laidKinds := [.data, .data, .data, .data], laidTests := true, laidLooks := .later }
def TrainOddityUptoCardSaid : Prop := Claim7.holds Tryz.pinned (.plain (OpenSpec.upto trainOdditySpec)) trainOddityUptoCard

/-- THE SECOND FORM's CARD OF 'quadformlaw27.TrainParts'. -/
def trainPartsUptoCard : Claim7 := { stood := { row := trainPartsUptoRow, standIns := [], harness := (true, "0ae1ad1bafd0d98208d3b5191f8e512b037f72842a26528361859fa7280c3b19"), looks := false }, kinds := [], alts := [], laidByText := true, laidKinds := [.data, .data, .data, .data], laidTests := true, laidLooks := .later }
def TrainPartsUptoCardSaid : Prop := Claim7.holds Tryz.pinned (.plain (OpenSpec.upto trainPartsSpec)) trainPartsUptoCard

/-- THE SECOND FORM's CARD OF 'quadformlaw27.TrainCovers'. -/
def trainCoversUptoCard : Claim7 := { stood := { row := trainCoversUptoRow, standIns := [], harness := (true, "0ae1ad1bafd0d98208d3b5191f8e512b037f72842a26528361859fa7280c3b19"), looks := false }, kinds := [], alts := [], laidByText := true, laidKinds := [.data, .data, .data, .data], laidTests := true, laidLooks := .later }
def TrainCoversUptoCardSaid : Prop := Claim7.holds Tryz.pinned (.plain (OpenSpec.upto trainCoversSpec)) trainCoversUptoCard

/-- THE SECOND FORM's CARD OF 'quadformlaw27.TrainWalks'. -/
def trainWalksUptoCard : Claim7 := { stood := { row := trainWalksUptoRow, standIns := [], harness := (true, "0ae1ad1bafd0d98208d3b5191f8e512b037f72842a26528361859fa7280c3b19"), looks := false }, kinds := [], alts := [], laidByText := true, laidKinds := [.data, .data, .data, .data], laidTests := true, laidLooks := .later }
def TrainWalksUptoCardSaid : Prop := Claim7.holds Tryz.pinned (.plain (OpenSpec.upto trainWalksSpec)) trainWalksUptoCard

/-- THE SECOND FORM's CARD OF 'quadformlaw27.TrainRefine'. -/
def trainRefineUptoCard : Claim7 := { stood := { row := trainRefineUptoRow, standIns := [], harness := (true, "0ae1ad1bafd0d98208d3b5191f8e512b037f72842a26528361859fa7280c3b19"), looks := false }, kinds := [], alts := [], laidByText := true, laidKinds := [.data, .data, .data, .data], laidTests := true, laidLooks := .later }
def TrainRefineUptoCardSaid : Prop := Claim7.holds Tryz.pinned (.plain (OpenSpec.upto trainRefineSpec)) trainRefineUptoCard

/-- THE SECOND FORM's CARD OF 'quadformlaw27.TrainRefines'. -/
def trainRefinesUptoCard : Claim7 := { stood := { row := trainRefinesUptoRow, standIns := [], harness := (true, "0ae1ad1bafd0d98208d3b5191f8e512b037f72842a26528361859fa7280c3b19"), looks := false }, kinds := [], alts := [], laidByText := true, laidKinds := [.data, .data, .data, .data], laidTests := true, laidLooks := .later }
def TrainRefinesUptoCardSaid : Prop := Claim7.holds Tryz.pinned (.plain (OpenSpec.upto trainRefinesSpec)) trainRefinesUptoCard

/-- THE SECOND FORM's CARD OF 'quadformlaw27.TrainOrbit'. -/
def trainOrbitUptoCard : Claim7 := { stood := { row := trainOrbitUptoRow, standIns := [], harness := (true, "0ae1ad1bafd0d98208d3b5191f8e512b037f72842a26528361859fa7280c3b19"), looks := false }, kinds := [], alts := [], laidByText := true, laidKinds := [.data, .data, .data, .data], laidTests := true, laidLooks := .later }
def TrainOrbitUptoCardSaid : Prop := Claim7.holds Tryz.pinned (.plain (OpenSpec.upto trainOrbitSpec)) trainOrbitUptoCard
end Rows
end Go.Proofs.YtcgnijaammdckaaGreatDoor
