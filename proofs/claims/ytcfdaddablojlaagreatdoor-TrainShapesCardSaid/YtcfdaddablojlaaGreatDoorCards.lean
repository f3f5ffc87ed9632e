/-
  DERIVED. GIVEN WITH THE SEED: THE CARDS: each row of YtcfdaddablojlaaGreatDoorRows.lean that lists a variable, with what it lists TIED to the program's text (the seventh form; the later family's looks); each row that meets fmt, with fmt's text TOLD by the authors' own Lean function (tested against real Go, not proved from fmt's source: count such statements apart). THE CARD IS WHAT COUNTS. Prove the row's statement (the work); the ties are given (YtcfdaddablojlaaGreatDoorTie.lean); close each card by the builder's one call (the guide's Derived/Test/ToyasCard.lean, 'card_holds'). Laid BY PROGRAM, IN A SANDBOX (cutbox-door.mjs). By AI agents, Wed Nov 11 2026. No macro, syntax, notation, axiom, sorry.
-/
import Derived.Test.YtcfdaddablojlaaGreatDoorRows
import GoSem.ClaimSeven
namespace Go.Proofs.YtcfdaddablojlaaGreatDoor
namespace Rows

/-- THE TIED CARD OF 'quadformlaw27.TrainFuse'. -/
def trainFuseCard : Claim7 := { stood := { row := trainFuseRow, standIns := [], harness := (true, "6beb7a44c204e8e94bfd877683814e1df642f888b1672336f4ca6b0ba1e3b75f"), looks := false }, kinds := [], alts := [], laidByText := true, laidKinds := [.data, .data, .data, .data], laidTests := true, laidLooks := .later }
def TrainFuseCardSaid : Prop := Claim7.holds Tryz.pinned (.plain (OpenSpec.ofChange trainFuseSpec)) trainFuseCard

/-- THE TIED CARD OF 'quadformlaw27.TrainCanonical'. -/
def trainCanonicalCard : Claim7 := { stood := { row := trainCanonicalRow, standIns := [], harness := (true, "6beb7a44c204e8e94bfd877683814e1df642f888b1672336f4ca6b0ba1e3b75f"), looks := false }, kinds := [], alts := [], laidByText := true, laidKinds := [.data, .data, .data, .data], laidTests := true, laidLooks := .later }
def TrainCanonicalCardSaid : Prop := Claim7.holds Tryz.pinned (.plain (OpenSpec.ofChange trainCanonicalSpec)) trainCanonicalCard

/-- THE TIED CARD OF 'quadformlaw27.TrainWalk'. -/
def trainWalkCard : Claim7 := { stood := { row := trainWalkRow, standIns := [], harness := (true, "6beb7a44c204e8e94bfd877683814e1df642f888b1672336f4ca6b0ba1e3b75f"), looks := false }, kinds := [], alts := [], laidByText := true, laidKinds := [.data, .data, .data, .data], laidTests := true, laidLooks := .later }
def TrainWalkCardSaid : Prop := Claim7.holds Tryz.pinned (.plain (OpenSpec.ofChange trainWalkSpec)) trainWalkCard

/-- THE TIED CARD OF 'quadformlaw27.TrainOddity'. -/
def trainOddityCard : Claim7 := { stood := { row := trainOddityRow, standIns := [], harness := (true, "6beb7a44c204e8e94bfd877683814e1df642f888b1672336f4ca6b0ba1e3b75f"), looks := false }, kinds := [], alts := [], laidByText := true, laidKinds := [.data, .data, .data, .data], laidTests := true, laidLooks := .later }
def TrainOddityCardSaid : Prop := Claim7.holds Tryz.pinned (.plain (OpenSpec.ofChange trainOdditySpec)) trainOddityCard

/-- THE TIED CARD OF 'quadformlaw27.TrainParts'. -/
def trainPartsCard : Claim7 := { stood := { row := trainPartsRow, standIns := [], harness := (true, "6beb7a44c204e8e94bfd877683814e1df642f888b1672336f4ca6b0ba1e3b75f"), looks := false }, kinds := [], alts := [], laidByText := true, laidKinds := [.data, .data, .data, .data], laidTests := true, laidLooks := .later }
def TrainPartsCardSaid : Prop := Claim7.holds Tryz.pinned (.plain (OpenSpec.ofChange trainPartsSpec)) trainPartsCard

/-- THE TIED CARD OF 'quadformlaw27.TrainCovers'. -/
def trainCoversCard : Claim7 := { stood := { row := trainCoversRow, standIns := [], harness := (true, "6beb7a44c204e8e94bfd877683814e1df642f888b1672336f4ca6b0ba1e3b75f"), looks := false }, kinds := [], alts := [], laidByText := true, laidKinds := [.data, .data, .data, .data], laidTests := true, laidLooks := .later }
def TrainCoversCardSaid : Prop := Claim7.holds Tryz.pinned (.plain (OpenSpec.ofChange trainCoversSpec)) trainCoversCard

/-- THE TIED CARD OF 'quadformlaw27.TrainWalks'. -/
def trainWalksCard : Claim7 := { stood := { row := trainWalksRow, standIns := [], harness := (true, "6beb7a44c204e8e94bfd877683814e1df642f888b1672336f4ca6b0ba1e3b75f"), looks := false }, kinds := [], alts := [], laidByText := true, laidKinds := [.data, .data, .data, .data], laidTests := true, laidLooks := .later }
def TrainWalksCardSaid : Prop := Claim7.holds Tryz.pinned (.plain (OpenSpec.ofChange trainWalksSpec)) trainWalksCard

/-- THE TIED CARD OF 'quadformlaw27.TrainRefine'. -/
def trainRefineCard : Claim7 := { stood := { row := trainRefineRow, standIns := [], harness := (true, "6beb7a44c204e8e94bfd877683814e1df642f888b1672336f4ca6b0ba1e3b75f"), looks := false }, kinds := [], alts := [], laidByText := true, laidKinds := [.data, .data, .data, .data], laidTests := true, laidLooks := .later }
def TrainRefineCardSaid : Prop := Claim7.holds Tryz.pinned (.plain (OpenSpec.ofChange trainRefineSpec)) trainRefineCard

/-- THE TIED CARD OF 'quadformlaw27.TrainRefines'. -/
def trainRefinesCard : Claim7 := { stood := { row := trainRefinesRow, standIns := [], harness := (true, "6beb7a44c204e8e94bfd877683814e1df642f888b1672336f4ca6b0ba1e3b75f"), looks := false }, kinds := [], alts := [], laidByText := true, laidKinds := [.data, .data, .data, .data], laidTests := true, laidLooks := .later }
def TrainRefinesCardSaid : Prop := Claim7.holds Tryz.pinned (.plain (OpenSpec.ofChange trainRefinesSpec)) trainRefinesCard

/-- THE TIED CARD OF 'quadformlaw27.TrainOrbit'. -/
def trainOrbitCard : Claim7 := { stood := { row := trainOrbitRow, standIns := [], harness := (true, "6beb7a44c204e8e94bfd877683814e1df642f888b1672336f4ca6b0ba1e3b75f"), looks := false }, kinds := [], alts := [], laidByText := true, laidKinds := [.data, .data, .data, .data], laidTests := true, laidLooks := .later }
def TrainOrbitCardSaid : Prop := Claim7.holds Tryz.pinned (.plain (OpenSpec.ofChange trainOrbitSpec)) trainOrbitCard

/-- THE TIED CARD OF 'quadformlaw27.TrainShapes'. -/
def trainShapesCard : Claim7 := { stood := { row := trainShapesRow, standIns := [], harness := (true, "6beb7a44c204e8e94bfd877683814e1df642f888b1672336f4ca6b0ba1e3b75f"), looks := false }, kinds := [], alts := [], laidByText := true, laidKinds := [.data, .data, .data, .data], laidTests := true, laidLooks := .later }
def TrainShapesCardSaid : Prop := Claim7.holds Tryz.pinned (.plain (OpenSpec.ofChange trainShapesSpec)) trainShapesCard

/-- THE TIED CARD OF 'quadformlaw27.TrainCanonicalIs'. -/
def trainCanonicalIsCard : Claim7 := { stood := { row := trainCanonicalIsRow, standIns := [], harness := (true, "6beb7a44c204e8e94bfd877683814e1df642f888b1672336f4ca6b0ba1e3b75f"), looks := false }, kinds := [], alts := [], laidByText := true, laidKinds := [.data, .data, .data, .data], laidTests := true, laidLooks := .later }
def TrainCanonicalIsCardSaid : Prop := Claim7.holds Tryz.pinned (.plain (OpenSpec.ofChange trainCanonicalIsSpec)) trainCanonicalIsCard

/-- THE SECOND FORM's CARD OF 'quadformlaw27.TrainFuse'. -/
def trainFuseUptoCard : Claim7 := { stood := { row := trainFuseUptoRow, standIns := [], harness := (true, "6beb7a44c204e8e94bfd877683814e1df642f888b1672336f4ca6b0ba1e3b75f"), looks := false }, kinds := [], alts := [], laidByText := true, laidKinds := [.data, .data, .data, .data], laidTests := true, laidLooks := .later }
def TrainFuseUptoCardSaid : Prop := Claim7.holds Tryz.pinned (.plain (OpenSpec.upto trainFuseSpec)) trainFuseUptoCard

/-- THE SECOND FORM's CARD OF 'quadformlaw27.TrainCanonical'. -/
def trainCanonicalUptoCard : Claim7 := { stood := { row := trainCanonicalUptoRow, standIns := [], harness := (true, "6beb7a44c204e8e94bfd877683814e1df642f888b1672336f4ca6b0ba1e3b75f"), looks := false }, kinds := [], alts := [], laidByText := true, laidKinds := [.data, .data, .data, .data], laidTests := true, laidLooks := .later }
def TrainCanonicalUptoCardSaid : Prop := Claim7.holds Tryz.pinned (.plain (OpenSpec.upto trainCanonicalSpec)) trainCanonicalUptoCard

/-- THE SECOND FORM's CARD OF 'quadformlaw27.TrainWalk'. -/
def trainWalkUptoCard : Claim7 := { stood := { row := trainWalkUptoRow, standIns := [], harness := (true, "6beb7a44c204e8e94bfd877683814e1df642f888b1672336f4ca6b0ba1e3b75f"), looks := false }, kinds := [], alts := [], laidByText := true, laidKinds := [.data, .data, .data, .data], laidTests := true, laidLooks := .later }
def TrainWalkUptoCardSaid : Prop := Claim7.holds Tryz.pinned (.plain (OpenSpec.upto trainWalkSpec)) trainWalkUptoCard

/-- THE SECOND FORM's CARD OF 'quadformlaw27.TrainOddity'. -/
def trainOddityUptoCard : Claim7 := { stood := { row := trainOddityUptoRow, standIns := [], harness := (true, "6beb7a44c204e8e94bfd877683814e1df642f888b1672336f4ca6b0ba1e3b75f"), looks := false }, kinds := [], alts := [], laidByText := true, laidKinds := [.data, .data, .data, .data], laidTests := true, laidLooks := .later }
def TrainOddityUptoCardSaid : Prop := Claim7.holds Tryz.pinned (.plain (OpenSpec.upto trainOdditySpec)) trainOddityUptoCard

/-- THE SECOND FORM's CARD OF 'quadformlaw27.TrainParts'. -/
def trainPartsUptoCard : Claim7 := { stood := { row := trainPartsUptoRow, standIns := [], harness := (true, "6beb7a44c204e8e94bfd877683814e1df642f888b1672336f4ca6b0ba1e3b75f"), looks := false }, kinds := [], alts := [], laidByText := true, laidKinds := [.data, .data, .data, .data], laidTests := true, laidLooks := .later }
def TrainPartsUptoCardSaid : Prop := Claim7.holds Tryz.pinned (.plain (OpenSpec.upto trainPartsSpec)) trainPartsUptoCard

/-- THE SECOND FORM's CARD OF 'quadformlaw27.TrainCovers'. -/
def trainCoversUptoCard : Claim7 := { stood := { row := trainCoversUptoRow, standIns := [], harness := (true, "6beb7a44c204e8e94bfd877683814e1df642f888b1672336f4ca6b0ba1e3b75f"), looks := false }, kinds := [], alts := [], laidByText := true, laidKinds := [.data, .data, .data, .data], laidTests := true, laidLooks := .later }
def TrainCoversUptoCardSaid : Prop := Claim7.holds Tryz.pinned (.plain (OpenSpec.upto trainCoversSpec)) trainCoversUptoCard

/-- THE SECOND FORM's CARD OF 'quadformlaw27.TrainWalks'. -/
def trainWalksUptoCard : Claim7 := { stood := { row := trainWalksUptoRow, standIns := [], harness := (true, "6beb7a44c204e8e94bfd877683814e1df642f888b1672336f4ca6b0ba1e3b75f"), looks := false }, kinds := [], alts := [], laidByText := true, laidKinds := [.data, .data, .data, .data], laidTests := true, laidLooks := .later }
def TrainWalksUptoCardSaid : Prop := Claim7.holds Tryz.pinned (.plain (OpenSpec.upto trainWalksSpec)) trainWalksUptoCard

/-- THE SECOND FORM's CARD OF 'quadformlaw27.TrainRefine'. -/
def trainRefineUptoCard : Claim7 := { stood := { row := trainRefineUptoRow, standIns := [], harness := (true, "6beb7a44c204e8e94bfd877683814e1df642f888b1672336f4ca6b0ba1e3b75f"), looks := false }, kinds := [], alts := [], laidByText := true, laidKinds := [.data, .data, .data, .data], laidTests := true, laidLooks := .later }
def TrainRefineUptoCardSaid : Prop := Claim7.holds Tryz.pinned (.plain (OpenSpec.upto trainRefineSpec)) trainRefineUptoCard

/-- THE SECOND FORM's CARD OF 'quadformlaw27.TrainRefines'. -/
def trainRefinesUptoCard : Claim7 := { stood := { row := trainRefinesUptoRow, standIns := [], harness := (true, "6beb7a44c204e8e94bfd877683814e1df642f888b1672336f4ca6b0ba1e3b75f"), looks := false }, kinds := [], alts := [], laidByText := true, laidKinds := [.data, .data, .data, .data], laidTests := true, laidLooks := .later }
def TrainRefinesUptoCardSaid : Prop := Claim7.holds Tryz.pinned (.plain (OpenSpec.upto trainRefinesSpec)) trainRefinesUptoCard

/-- THE SECOND FORM's CARD OF 'quadformlaw27.TrainOrbit'. -/
def trainOrbitUptoCard : Claim7 := { stood := { row := trainOrbitUptoRow, standIns := [], harness := (true, "6beb7a44c204e8e94bfd877683814e1df642f888b1672336f4ca6b0ba1e3b75f"), looks := false }, kinds := [], alts := [], laidByText := true, laidKinds := [.data, .data, .data, .data], laidTests := true, laidLooks := .later }
def TrainOrbitUptoCardSaid : Prop := Claim7.holds Tryz.pinned (.plain (OpenSpec.upto trainOrbitSpec)) trainOrbitUptoCard

/-- THE SECOND FORM's CARD OF 'quadformlaw27.TrainShapes'. -/
def trainShapesUptoCard : Claim7 := { stood := { row := trainShapesUptoRow, standIns := [], harness := (true, "6beb7a44c204e8e94bfd877683814e1df642f888b1672336f4ca6b0ba1e3b75f"), looks := false }, kinds := [], alts := [], laidByText := true, laidKinds := [.data, .data, .data, .data], laidTests := true, laidLooks := .later }
def TrainShapesUptoCardSaid : Prop := Claim7.holds Tryz.pinned (.plain (OpenSpec.upto trainShapesSpec)) trainShapesUptoCard

/-- THE SECOND FORM's CARD OF 'quadformlaw27.TrainCanonicalIs'. -/
def trainCanonicalIsUptoCard : Claim7 := { stood := { row := trainCanonicalIsUptoRow, standIns := [], harness := (true, "6beb7a44c204e8e94bfd877683814e1df642f888b1672336f4ca6b0ba1e3b75f"), looks := false }, kinds := [], alts := [], laidByText := true, laidKinds := [.data, .data, .data, .data], laidTests := true, laidLooks := .later }
def TrainCanonicalIsUptoCardSaid : Prop := Claim7.holds Tryz.pinned (.plain (OpenSpec.upto trainCanonicalIsSpec)) trainCanonicalIsUptoCard
end Rows
end Go.Proofs.YtcfdaddablojlaaGreatDoor
